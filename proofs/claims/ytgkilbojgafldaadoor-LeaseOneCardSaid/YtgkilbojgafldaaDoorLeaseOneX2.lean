/-
  Words and walks for LeaseOne. No condition.
-/
import Derived.Below
import Derived.RangeFuncLeaves
import Derived.WalkKit
import Derived.ProofKit
import Derived.OpenShut
import Derived.ShutString
import Derived.ChangeOld
import Derived.SizedLaws
import Derived.Test.YtgkilbojgafldaaDoorLeaseOneX1
set_option linter.unusedSectionVars false
set_option linter.unnecessarySimpa false
set_option linter.unusedSimpArgs false
set_option linter.unusedVariables false
namespace Go.RX
open Go
/-! ### the tables -/
theorem bw7 {ti:x9}:∀(l:List x9) (k:Nat),br9 ti k l=true→∀(j:Nat) (tj:x9),l[j]? =some tj→bE7 (k+j) tj ti=true
 | [],_,_,j,tj,h=>by simp at h
 | t::l,k,h,j,tj,hj=>by
  simp only[br9,Bool.and_eq_true] at h
  cases j with
  | zero=>simp at hj;subst hj;exact h.1
  | succ j=>have:=bw7 l (k+1) h.2 j tj (by simpa using hj);rwa [show k+1+j=k+(j+1) by omega] at this
theorem bD4:∀(ts pre:List x9),ab4 pre ts=true→∀(i j:Nat) (ti tj:x9),pre.length≤i→(pre++ts)[i]? =some ti→j<i→(pre++ts)[j]? =some tj→bE7 j tj ti=true
 | [],pre,_,i,j,ti,tj,h1,h2,_,_=>by
  exfalso
  rw[List.append_nil] at h2
  have:=(List.getElem?_eq_some_iff.1 h2).1
  omega
 | t::ts,pre,h,i,j,ti,tj,h1,h2,h3,h4=>by
  simp only[ab4,Bool.and_eq_true] at h
  rcases Nat.lt_or_ge pre.length i with hlt | hge
  ·refine bD4 ts (pre++ [t]) h.2 i j ti tj (by simp;omega) ?_ h3 ?_
   ·simpa using h2
   ·simpa using h4
  ·have he:i=pre.length:=by omega
   subst he
   rw[List.getElem?_append_right (Nat.le_refl _)] at h2
   simp at h2
   subst h2
   rw[List.getElem?_append_left h3] at h4
   have:=bw7 pre 0 h.1 j tj h4
   rwa [Nat.zero_add] at this
theorem ca1 (masks:List Nat) (j:Nat):∀(l:List Edge) (s:Nat),(l.foldl (fun s e=>bif Region.binds .any e then s ||| (2^e.on) ||| masks.getD e.on 0 else s) s).testBit j=true→
  s.testBit j=true∨∃e∈l,Region.binds .any e=true∧(j=e.on∨(masks.getD e.on 0).testBit j=true)
 | [],s,h=> .inl h
 | e::l,s,h=>by
  rcases ca1 masks j l _ h with h1 | ⟨e',he,h2⟩
  ·cases hb:Region.binds .any e with
   | false=>simp only[hb,cond_false] at h1;exact .inl h1
   | true=>
    simp only[hb,cond_true,Nat.testBit_or,Bool.or_eq_true,Nat.testBit_two_pow,decide_eq_true_eq] at h1
    rcases h1 with(h1 | h1) | h1
    ·exact .inl h1
    ·exact .inr ⟨e,by simp,hb,.inl h1.symm⟩
    ·exact .inr ⟨e,by simp,hb,.inr h1⟩
  ·exact .inr ⟨e',by simp[he],h2⟩
theorem ao1:∀(l:List Oper) (acc:List Nat),(X7 l acc).length=acc.length+l.length∧(∀i,i<acc.length→(X7 l acc)[i]? =acc[i]?)∧
  ∀(x:Nat) (o:Oper),l[x]? =some o→(X7 l acc)[acc.length+x]? =some (be6 o ((X7 l acc).take (acc.length+x)))
 | [],acc=>⟨rfl,fun _ _=>rfl,fun x o h=>by simp at h⟩
 | o::l,acc=>by
  obtain⟨h1,h2,h3⟩:=ao1 l (acc++ [be6 o acc])
  simp only[X7]
  refine⟨by rw[h1];simp;omega,fun i hi=> ?_,fun x o' hx=> ?_⟩
  ·rw[h2 i (by simp;omega),List.getElem?_append_left hi]
  ·cases x with
   | zero=>
    simp at hx
    subst hx
    rw[Nat.add_zero,h2 acc.length (by simp),List.getElem?_append_right (Nat.le_refl _)]
    simp only[Nat.sub_self,List.getElem?_cons_zero,Option.some.injEq]
    congr 1
    refine List.ext_getElem? fun i=> ?_
    rw[List.getElem?_take]
    split
    ·rename_i hi;rw[h2 i (by simp;omega),List.getElem?_append_left hi]
    ·simp;omega
   | succ x=>
    have:=h3 x o' (by simpa using hx)
    simp only[List.length_append,List.length_singleton] at this
    rwa [show acc.length+1+x=acc.length+(x+1) by omega] at this
theorem bS5:∀(l:List Oper) (i:Nat),an2 i l=true→∀(x:Nat) (o:Oper),l[x]? =some o→∀e∈o.after,Region.binds .any e=true→e.on<i+x
 | [],_,_,x,o,h=>by simp at h
 | o::l,i,h,x,o',hx=>by
  simp only[an2,Bool.and_eq_true,List.all_eq_true,Bool.or_eq_true,Bool.not_eq_true'] at h
  cases x with
  | zero=>
   simp at hx
   subst hx
   intro e he hb
   rcases h.1 e (by simpa using he) with h1 | h1
   ·rw[h1] at hb;cases hb
   ·exact Nat.le_of_ble_eq_true h1
  | succ x=>
   intro e he hb
   have:=bS5 l (i+1) h.2 x o' (by simpa using hx) e he hb
   omega
section
variable {P : Program} {K : FuncId → Nat} {ops : Array Oper}
theorem bN4:(l9 P K ops).length=ops.size:=by
 simp[l9,(ao1 ops.toList []).1]
theorem ba6 {i:Nat}{o:Oper}{t:x9} (ho:ops.toList[i]? =some o) (ht:(l9 P K ops)[i]? =some t):
  t.looks=o.looksAt ops∧t.dst=o.dst∧t.kind=T4 P K ops.toList o∧t.before=be6 o ((X7 ops.toList []).take i):=by
 simp only[l9,List.getElem?_map,Option.map_eq_some_iff,List.getElem?_zip_eq_some,Prod.exists] at ht
 obtain⟨o',m,⟨h1,h2⟩,rfl⟩:=ht
 rw[ho] at h1
 obtain rfl:=Option.some.inj h1
 have:=(ao1 ops.toList []).2.2 i o ho
 simp only[List.length_nil,Nat.zero_add] at this
 rw[h2] at this
 exact⟨rfl,rfl,rfl,Option.some.inj this⟩
theorem bz5 {i:Nat}{o:Oper}{t:x9} (ho:ops.toList[i]? =some o) (ht:(l9 P K ops)[i]? =some t):t.soft=aV2 K o.op:=by
 simp only[l9,List.getElem?_map,Option.map_eq_some_iff,List.getElem?_zip_eq_some,Prod.exists] at ht
 obtain⟨o',m,⟨h1,h2⟩,rfl⟩:=ht
 rw[ho] at h1
 obtain rfl:=Option.some.inj h1
 rfl
theorem aq0 {i:Nat} (hi:i<ops.size):∃o t,ops.toList[i]? =some o∧(l9 P K ops)[i]? =some t:=
 ⟨ops[i],(l9 P K ops)[i]'(by rw[bN4];exact hi),by simp[hi],by simp[bN4,hi]⟩
theorem cH5 {i j:Nat} (h:Z2 (l9 P K ops) i j=true):∃o,ops.toList[i]? =some o∧∃e∈o.after,Region.binds .any e=true∧(j=e.on∨Z2 (l9 P K ops) e.on j=true):=by
 simp only[Z2] at h
 split at h
 ·rename_i t ht
  have hlt:=(List.getElem?_eq_some_iff.1 ht).1
  rw[bN4] at hlt
  obtain⟨o,t',ho,ht'⟩:=aq0 (P:=P) (K:=K) hlt
  rw[(ba6 ho ht).2.2.2] at h
  refine⟨o,ho,?_⟩
  rcases ca1 _ j _ 0 h with h1 | ⟨e,he,hb,h1⟩
  ·simp at h1
  ·refine⟨e,by simpa using he,hb,h1.imp id fun h1=> ?_⟩
   have hm:((X7 ops.toList []).take i)[e.on]? =some (((X7 ops.toList []).take i).getD e.on 0):=by
    cases hx:((X7 ops.toList []).take i)[e.on]? with
    | none=>rw[List.getD_eq_getElem?_getD,hx] at h1;simp at h1
    | some x=>rw[List.getD_eq_getElem?_getD,hx];rfl
   have hl:=(List.getElem?_eq_some_iff.1 hm).1
   have hon:e.on<ops.size:=by simp[(ao1 ops.toList []).1] at hl;omega
   obtain⟨o2,t2,ho2,ht2⟩:=aq0 (P:=P) (K:=K) hon
   simp only[Z2,ht2]
   have hms:(X7 ops.toList [])[e.on]? =some (((X7 ops.toList []).take i).getD e.on 0):=by
    rw[List.getElem?_take] at hm
    split at hm
    ·exact hm
    ·cases hm
   have:=(ao1 ops.toList []).2.2 e.on o2 ho2
   simp only[List.length_nil,Nat.zero_add] at this
   rw[hms] at this
   rw[(ba6 ho2 ht2).2.2.2,←Option.some.inj this]
   exact h1
 ·cases h
theorem aR8 (h:ab4 [] (l9 P K ops)=true) {i j:Nat} (hi:i<ops.size) (hj:j<i):
  Z2 (l9 P K ops) i j=true∨(ax3 (tLk (l9 P K ops) i) (U3 (l9 P K ops) j)=false∧ax3 (tLk (l9 P K ops) j) (U3 (l9 P K ops) i)=false∧
   aQ1 (U3 (l9 P K ops) i) (U3 (l9 P K ops) j)=false∧(aN6 (L8 (l9 P K ops) i) (L8 (l9 P K ops) j)=false∨aV8 (l9 P K ops) i j)):=by
 obtain⟨o,t,ho,ht⟩:=aq0 (P:=P) (K:=K) hi
 obtain⟨o',t',ho',ht'⟩:=aq0 (P:=P) (K:=K) (Nat.lt_trans hj hi)
 have:=bD4 _ _ h i j t t' (by simp) ht hj ht'
 simp only[bE7,Bool.or_eq_true,Bool.not_eq_true',Bool.or_eq_false_iff,Bool.and_eq_false_iff,Bool.not_eq_false'] at this
 simp only[Z2,tLk,U3,L8,ht,ht']
 exact this.imp id fun x=>⟨x.1.1.1,x.1.1.2,x.1.2,x.2.imp id fun h=>⟨t,t',ht,ht',h⟩⟩
end
/-! ### how many are left -/
def cnt (p:Nat→Bool):Nat→Nat
 | 0=>0
 | n+1=>cnt p n+(if p n then 1 else 0)
theorem cf5 {p:Nat→Bool}:∀(n:Nat),cnt p n=0→∀i,i<n→p i=false
 | n+1,h,i,hi=>by
  simp only[cnt] at h
  rcases aa8 hi with h1 | h1
  ·exact cf5 n (by omega) i h1
  ·subst h1
   cases hp:p i with
   | false=>rfl
   | true=>rw[hp] at h;simp at h
theorem bQ9 {p p' :Nat→Bool}:∀(n:Nat),(∀i,i<n→p i=p' i)→cnt p n=cnt p' n
 | 0,_=>rfl
 | n+1,h=>by simp only[cnt];rw[bQ9 n (fun i hi=>h i (by omega)),h n (by omega)]
theorem cf0 {p p' :Nat→Bool}{i:Nat} (h1:p i=true) (h2:p' i=false) (h3:∀j,j≠i→p' j=p j):∀(n:Nat),i<n→cnt p n=cnt p' n+1
 | n+1,hi=>by
  simp only[cnt]
  rcases aa8 hi with h | h
  ·rw[cf0 h1 h2 h3 n h,h3 n (by omega)];omega
  ·subst h
   rw[h1,h2,bQ9 i (fun j hj=>(h3 j (by omega)).symm)]
   simp
/-! ### any order -/
section
variable {E : E7} {C : Cx} {Q : D → i4 → Prop} {w w' : World} {Im Im' : Nat → Prop} {φ φ' : o8} {σ σ' : i4} {ops : Array Oper} {fr : Fr} {σ0 : i4} {dv : Nat → D} {sv : Nat → i4}
/-- A set of operations that have been carried m9. -/
structure aQ0 (E : E7) (ops : Array Oper) (S : Nat → Prop) : Prop where
  lt : ∀ i, S i → i < ops.size
  cl : ∀ i j, S i → Z2 (l9 E.P E.kp ops) i j = true → S j
theorem bi0 {l:List Nat}{t:Nat}{o:Option Nat} (h:ax3 l o=false) (ho:o=some t) (ht:t∈l):False:=by
 subst ho;simp[ax3] at h;exact h ht
theorem bN2 {a b:Option Nat}{t:Nat} (h:aQ1 a b=false) (ha:a=some t) (hb:b=some t):False:=by
 subst ha;subst hb;simp only[aQ1,Nat.beq_refl] at h;cases h
theorem bB0 {a b:Nat} (ha:2≤a) (hb:2≤b):aN6 a b=true:=by
 simp only[aN6,Nat.ble_eq_true_of_le ha,Nat.ble_eq_true_of_le hb];rfl
theorem cI0 {a b:Nat} (ha:1≤a) (hb:b=3):aN6 a b=true:=by
 subst hb;simp only[aN6,Nat.ble_eq_true_of_le ha];simp[Nat.beq]
theorem cE9 {a b:Nat} (ha:1≤a) (hb:b=3):aN6 b a=true:=by
 subst hb;simp only[aN6,Nat.ble_eq_true_of_le ha];simp[Nat.beq]
theorem cw7 (op:Op):K5 op≤4:=by
 unfold K5
 split<;>(try split)<;>omega
theorem cB0 (P:Program) (op:Op):E6 P op≤3:=by
 have h:=cw7 op
 unfold E6
 generalize K5 op=k at h
 match k,h with
 | 0,_=>simp
 | 1,_=>simp
 | 2,_=>simp
 | 3,_=>simp
 | 4,_=>
  simp only
  split
  ·split<;>omega
  ·omega
theorem aV8.kd {tabs:List x9}{i j:Nat} (h:aV8 tabs i j):(L8 tabs i=1∧L8 tabs j=3)∨(L8 tabs i=3∧L8 tabs j=1):=by
 obtain⟨ti,tj,h1,h2,h3⟩:=h
 simp only[av3,Bool.and_eq_true,Bool.or_eq_true] at h3
 simp only[L8,h1,h2]
 exact h3.imp (fun h=>⟨Nat.eq_of_beq_eq_true h.1.2,Nat.eq_of_beq_eq_true h.2⟩) (fun h=>⟨Nat.eq_of_beq_eq_true h.1.1,Nat.eq_of_beq_eq_true h.2⟩)
theorem aV8.looks {tabs:List x9}{i j:Nat} (h:aV8 tabs i j):(L8 tabs i=1→∃a,tSf tabs i=some a)∧(L8 tabs j=1→∃a,tSf tabs j=some a):=by
 obtain⟨ti,tj,h1,h2,h3⟩:=h
 simp only[av3,Bool.and_eq_true,Bool.or_eq_true] at h3
 simp only[tSf,L8,h1,h2]
 refine⟨fun hk=> ?_,fun hk=> ?_⟩
 ·rcases h3 with h3 | h3
  ·exact Option.isSome_iff_exists.1 h3.1.1
  ·have:=Nat.eq_of_beq_eq_true h3.1.1;omega
 ·rcases h3 with h3 | h3
  ·have:=Nat.eq_of_beq_eq_true h3.2;omega
  ·exact Option.isSome_iff_exists.1 h3.1.2
theorem later {S:Nat→Prop} (hD:aQ0 E ops S) (hT:ab4 [] (l9 E.P E.kp ops)=true) {i:Nat} (hi:i<ops.size) (hn:¬S i) (hb:∀j,Z2 (l9 E.P E.kp ops) i j=true→S j) {k:Nat} (hk:S k) (h:¬k<i):i<k∧(ax3 (tLk (l9 E.P E.kp ops) k) (U3 (l9 E.P E.kp ops) i)=false∧ax3 (tLk (l9 E.P E.kp ops) i) (U3 (l9 E.P E.kp ops) k)=false∧
  aQ1 (U3 (l9 E.P E.kp ops) k) (U3 (l9 E.P E.kp ops) i)=false∧(aN6 (L8 (l9 E.P E.kp ops) k) (L8 (l9 E.P E.kp ops) i)=false∨aV8 (l9 E.P E.kp ops) k i)):=by
 have hne:k≠i:=fun e=>hn (e▸hk)
 have hlt:i<k:=by omega
 refine⟨hlt,(aR8 hT (hD.lt k hk) hlt).resolve_left fun h=>hn (hD.cl k i hk h)⟩
theorem cp8 {S:Nat→Prop} (hD:aQ0 E ops S) (hT:ab4 [] (l9 E.P E.kp ops)=true) {i:Nat} (hi:i<ops.size) (hn:¬S i) (hb:∀j,Z2 (l9 E.P E.kp ops) i j=true→S j) {t:Nat} (ht:t∈tLk (l9 E.P E.kp ops) i) (k:Nat) (hk:U3 (l9 E.P E.kp ops) k=some t):S k↔k<i:=by
 constructor
 ·intro hs
  rcases Nat.lt_or_ge k i with h | h
  ·exact h
  ·exact(bi0 (later hD hT hi hn hb hs (by omega)).2.2.1 hk ht).elim
 ·intro hlt
  rcases aR8 hT hi hlt with h | h
  ·exact hb k h
  ·exact(bi0 h.1 hk ht).elim
theorem cj2 {S:Nat→Prop} (hD:aQ0 E ops S) (hT:ab4 [] (l9 E.P E.kp ops)=true) {i:Nat} (hi:i<ops.size) (hn:¬S i) (hb:∀j,Z2 (l9 E.P E.kp ops) i j=true→S j) (k t:Nat) (hk:S k) (h1:U3 (l9 E.P E.kp ops) i=some t) (h2:U3 (l9 E.P E.kp ops) k=some t):k≤i:=by
 rcases Nat.lt_or_ge k i with h | h
 ·omega
 ·exact(bN2 (later hD hT hi hn hb hk (by omega)).2.2.2.1 h2 h1).elim
theorem ce1 {S:Nat→Prop} (hD:aQ0 E ops S) (hT:ab4 [] (l9 E.P E.kp ops)=true) {i:Nat} (hi:i<ops.size) (hn:¬S i) (hb:∀j,Z2 (l9 E.P E.kp ops) i j=true→S j) (hc:2≤L8 (l9 E.P E.kp ops) i) (k:Nat) (hk:2≤L8 (l9 E.P E.kp ops) k):S k↔k<i∧Z2 (l9 E.P E.kp ops) i k=true:=by
 constructor
 ·intro hs
  rcases Nat.lt_or_ge k i with h | h
  ·refine⟨h,(aR8 hT hi h).resolve_right fun hx=> ?_⟩
   rcases hx.2.2.2 with hx | hx
   ·rw[bB0 hc hk] at hx;cases hx
   ·have:=hx.kd;omega
  ·rcases(later hD hT hi hn hb hs (by omega)).2.2.2.2 with this | this
   ·rw[bB0 hk hc] at this;cases this
   ·have:=this.kd;omega
 ·exact fun h=>hb k h.2
theorem bT3 {S:Nat→Prop} (hD:aQ0 E ops S) (hT:ab4 [] (l9 E.P E.kp ops)=true) {i:Nat} (hi:i<ops.size) (hn:¬S i) (hb:∀j,Z2 (l9 E.P E.kp ops) i j=true→S j) (hc:1≤L8 (l9 E.P E.kp ops) i) (k:Nat) (hs:S k) (hk:L8 (l9 E.P E.kp ops) k=3):
  (k<i∧Z2 (l9 E.P E.kp ops) i k=true)∨(k<i∧Z2 (l9 E.P E.kp ops) i k=false∧aV8 (l9 E.P E.kp ops) i k)∨(i<k∧Z2 (l9 E.P E.kp ops) k i=false∧aV8 (l9 E.P E.kp ops) k i):=by
 rcases Nat.lt_or_ge k i with h | h
 ·cases hbf:Z2 (l9 E.P E.kp ops) i k with
  | true=>exact .inl ⟨h,rfl⟩
  | false=>
   rcases aR8 hT hi h with hx | hx
   ·rw[hbf] at hx;cases hx
   ·rcases hx.2.2.2 with hx | hx
    ·rw[cI0 hc hk] at hx;cases hx
    ·exact .inr (.inl ⟨h,rfl,hx⟩)
 ·obtain⟨hlt,-,-,-,hx⟩:=later hD hT hi hn hb hs (by omega)
  rcases hx with hx | hx
  ·rw[cE9 hc hk] at hx;cases hx
  ·refine .inr (.inr ⟨hlt,?_,hx⟩)
   cases hbf:Z2 (l9 E.P E.kp ops) k i with
   | false=>rfl
   | true=>exact absurd (hD.cl k i hs hbf) hn
theorem cM0 {P:Program}{K:FuncId→Nat}{op:Op} (h:aj1 P K op<2):kOp K op=false∧E6 P op=aj1 P K op:=by
 unfold aj1 at*
 cases hk:kOp K op with
 | true=>rw[hk] at h;cases hn:aX7 K op<;>rw[hn] at h<;>simp at h
 | false=>exact⟨rfl,rfl⟩
theorem cJ3 (P:Program) (K:FuncId→Nat) (op:Op):aj1 P K op≤3:=by
 unfold aj1
 cases kOp K op with
 | true=>cases aX7 K op<;>simp
 | false=>exact cB0 P op
theorem ck2 {P:Program}{E:E7}{ρ:Operand→D}{o:Oper}{σ:i4} (hk:kOp E.kp o.op=true) (hn:aX7 E.kp o.op=true) (hg:∀f,ρ (.func f)=.fn f [] []) {ks:Bool}{d:D}{s:i4} (hl:O1 E ks σ (R8 P ρ o σ) d s):V0 σ s:=by
 unfold kOp at hk
 split at hk
 ·rename_i c hc
  split at hk
  ·rename_i f hf
   rw[hc] at hn
   simp only[aX7,hf,Bool.or_eq_true,List.isEmpty_iff] at hn
   unfold R8 at hl
   simp only[hc,callD,hf,hg] at hl
   split at hl
   ·cases hl with
    | call=>exact V0.refl _
    | callB=>exact V0.refl _
    | callR _ _ _ _ _ ht=>
     intro b B h
     have hlt:=I7 h
     have e:(List.take σ.length _)[b]? =σ[b]? :=congrArg (·[b]?) ht
     rw[List.getElem?_take,if_pos hlt] at e
     rw[J5] at h ⊢
     rw[e];exact h
    | callS _ hro hp _ _ hb=>
     have ha:c.args.toList= []:=by
      rcases hn with hn | hn
      ·exact hn
      ·exfalso
       have:=Nat.eq_of_beq_eq_true hn
       simp only[E7.kp,hro,cond_false] at this
       cases h1:((E.pol f).keep || (E.pol f).pass)<;>rw[h1] at this<;>simp at this
     simp only[ha,List.map_nil,List.append_nil,aO1,L2,Option.some.injEq] at hp
     subst hp
     simp only[bg8] at hb
     split at hb
     ·obtain rfl:=Option.some.inj hb;exact V0.refl _
     ·split at hb
      ·obtain rfl:=Option.some.inj hb
       exact fun b B h=>by rw[z7 (I7 h)];exact h
      ·cases hb
   ·cases hl
  ·cases hk
 ·cases hk
theorem cF8 {K:FuncId→Nat}{op:Op}{a:Operand} (h:ap0 op=some a):kOp K op=false:=by
 cases op<;>simp only[ap0] at h<;>try (cases h;done)
 all_goals first
  | rfl
  | (split at h<;>first | (cases h;done) | (rename_i c _ _ hc _;simp only[kOp,hc]))
theorem bR2 {P:Program}{K:FuncId→Nat}{all:List Oper}{o:Oper} (h:1≤T4 P K all o):au2 all o=false∧T4 P K all o=aj1 P K o.op:=by
 unfold T4 at*
 cases hl:au2 all o with
 | true=>rw[hl] at h;simp at h
 | false=>exact⟨rfl,rfl⟩
theorem cG5 (P:Program) (K:FuncId→Nat) (all:List Oper) (o:Oper):T4 P K all o≤3:=by
 unfold T4
 cases au2 all o with
 | true=>simp
 | false=>exact cJ3 P K o.op
theorem OpF.keep {all:List Oper}{o:Oper}{g:Fr}{τ:i4}{d:D}{s:i4} (h:OpF E all o g τ d s) (hkT:T4 E.P E.kp all o=2):V0 τ s:=by
 obtain⟨hlf,hke⟩:=bR2 (P:=E.P) (K:=E.kp) (all:=all) (o:=o) (by omega)
 have hk:aj1 E.P E.kp o.op=2:=by omega
 cases h with
 | lit=>exact V0.refl _
 | run _ _ _ hl=>
  cases hko:kOp E.kp o.op with
  | true=>
   rw[hko] at hl
   refine ck2 hko ?_ (fun f=>rfl) hl
   unfold aj1 at hk
   rw[hko] at hk
   cases hn:aX7 E.kp o.op with
   | true=>rfl
   | false=>rw[hn] at hk;simp at hk
  | false=>
   rw[hko] at hl
   refine cQ3 ?_ hl
   unfold aj1 at hk
   rw[hko] at hk
   exact hk
 | off=>exact V0.refl _
 | gone=>exact V0.refl _
theorem bR1 {p:Nat→Bool}:∀{σ:i4}{k c:Nat}{B:A5},sget σ c=some B→p (k+c)=true→sget (u9 p k σ) c=some B
 | [],_,_,_,h,_=>by simp[sget] at h
 | x::r,k,0,B,h,hp=>by
  have hp' :p k=true:=by simpa using hp
  simp only[u9,sget,List.getElem?_cons_zero] at h ⊢
  rw[hp'];exact h
 | x::r,k,c+1,B,h,hp=>by
  have h' :sget r c=some B:=by simpa only[sget,List.getElem?_cons_succ] using h
  have:=bR1 (k:=k+1) h' (by rw[←hp];congr 1;omega)
  simpa only[u9,sget,List.getElem?_cons_succ] using this
theorem cp7 {σ:i4}{d:D} (h:bJ4 σ d=true):∀b∈ai5 σ 200 [] ([d].flatMap (ae7 l8)),av5 d=some b:=by
 intro b hb
 simp only[List.flatMap_cons,List.flatMap_nil,List.append_nil] at hb
 have one:∀c,av5 d=some c→ae7 l8 d= [c]→av5 d=some b:=fun c h1 h2=>by
  rw[h2] at hb
  simp only[bJ4,h1] at h
  split at h
  ·rename_i B hB
   simp only[Bool.not_eq_true'] at h
   simp only[ai5,hB,h,List.contains_nil,cond_false,List.nil_append,Bool.false_eq_true,if_false,List.append_nil] at hb
   simp only[List.mem_singleton] at hb
   rw[hb];exact h1
  ·cases h
 have none_:av5 d=none→av5 d=some b:=fun h1=>by
  simp only[bJ4,h1,List.isEmpty_iff] at h
  rw[h] at hb
  simp[ai5] at hb
 cases d with
 | ptr c i o=>exact one c rfl rfl
 | msl c i len lo ex=>exact one c rfl rfl
 | _=>exact none_ rfl
theorem cz8 {P:Program}{E:E7}{K:FuncId→Nat}{ρ:Operand→D}{o:Oper}{σ:i4}{a:Operand} (hk:aR1 K o.op=some a) (hg:∀f,ρ (.func f)=.fn f [] []) (hso:bJ4 σ (ρ a)=true) {ks:Bool}{d:D}{s:i4} (hl:O1 E ks σ (R8 P ρ o σ) d s)
  {b:Nat} (hb:av5 (ρ a)≠some b) {B:A5} (h:sget σ b=some B):sget s b=some B:=by
 unfold aR1 at hk
 split at hk
 ·rename_i c hc
  split at hk
  ·rename_i f a' hf ha
   have e:a' =a:=by
    cases hK:Nat.beq (K f) 3 with
    | true=>rw[hK] at hk;exact Option.some.inj hk
    | false=>rw[hK] at hk;cases hk
   subst e
   have hni:∀x∈ai5 σ 200 [] ([ρ a'].flatMap (ae7 l8)),x≠b:=fun x hx e=>hb (e▸cp7 hso x hx)
   unfold R8 at hl
   simp only[hc,callD,hf,hg,ha,List.map_cons,List.map_nil,List.nil_append,List.append_nil] at hl
   split at hl
   ·cases hl with
    | call=>exact h
    | callB=>exact h
    | callR _ _ _ _ _ ht=>
     have hlt:=I7 h
     have e:(List.take σ.length _)[b]? =σ[b]? :=congrArg (·[b]?) ht
     rw[List.getElem?_take,if_pos hlt] at e
     rw[J5] at h ⊢
     rw[e];exact h
    | callS _ _ hp _ _ hbk=>
     have join:∀(d0:D) (s0 τ:i4) (x:D×i4),sget τ b=some B→bg8 d0 s0 τ=some x→sget x.2 b=some B:=fun d0 s0 τ x ht hj=>by
      simp only[bg8] at hj
      split at hj
      ·obtain rfl:=Option.some.inj hj;exact ht
      ·split at hj
       ·obtain rfl:=Option.some.inj hj
        rw[z7 (I7 ht)];exact ht
       ·cases hj
     unfold aO1 at hp
     split at hp
     ·obtain rfl:=Option.some.inj hp
      exact join _ _ _ _ h hbk
     ·simp only[Bool.cond_eq_ite] at hp
      split at hp
      ·split at hp
       ·obtain rfl:=Option.some.inj hp
        simp only at hbk
        split at hbk
        ·rename_i d' s' _ _
         have hset:∀(ids:List Nat) (xs τ:i4),(∀x∈ids,x≠b)→sget τ b=some B→sget (O3 ids xs τ) b=some B:=fun ids=>by
          induction ids with
          | nil=>intro xs τ _ ht;simp only[O3];exact ht
          | cons y ids ih=>
           intro xs τ hy ht
           cases xs with
           | nil=>simp only[O3];exact ht
           | cons x xs=>
            simp only[O3]
            exact ar0 (hy y (by simp)) (ih xs τ (fun z hz=>hy z (by simp[hz])) ht)
         cases hle:Nat.ble (ai5 σ 200 [] ([ρ a'].flatMap (ae7 l8))).length s'.length with
         | true=>
          rw[hle] at hbk
          obtain rfl:=Option.some.inj hbk
          have:=hset _ s' σ hni h
          show sget (_++_) b=_
          rw[z7 (I7 this)];exact this
         | false=>rw[hle] at hbk;cases hbk
        ·cases hbk
       ·cases hp
      ·split at hp
       ·obtain rfl:=Option.some.inj hp
        simp only[Bool.cond_eq_ite] at hbk
        split at hbk
        ·obtain rfl:=Option.some.inj hbk;exact h
        ·refine join _ _ _ _ (bR1 h ?_) hbk
         simp only[Nat.zero_add,Bool.not_eq_true']
         cases hcn:(ai5 σ 200 [] ([ρ a'].flatMap (ae7 l8))).contains b with
         | false=>rfl
         | true=>exact absurd rfl (hni b (by simpa using hcn))
       ·cases hp
   ·cases hl
  ·cases hk
 ·cases hk
theorem OpF.keep3 {all:List Oper}{o:Oper}{g:Fr}{τ:i4}{d:D}{s:i4} (h:OpF E all o g τ d s) (hkT:T4 E.P E.kp all o=3) {a:Operand} (hs:aV2 E.kp o.op=some a) {b:Nat} (hb:av5 (C4 E.gl g a)≠some b) {B:A5} (h0:sget τ b=some B):sget s b=some B:=by
 obtain⟨hlf,hke⟩:=bR2 (P:=E.P) (K:=E.kp) (all:=all) (o:=o) (by omega)
 have hk:aj1 E.P E.kp o.op=3:=by omega
 cases h with
 | lit=>exact h0
 | run _ hso _ hl=>
  cases hsf:ap0 o.op with
  | some a' =>
   have e:a' =a:=by unfold aV2 at hs;rw[hsf] at hs;exact Option.some.inj hs
   subst e
   have hko:=cF8 (K:=E.kp) hsf
   have hk' :E6 E.P o.op=3:=by unfold aj1 at hk;rw[hko] at hk;exact hk
   rw[hko] at hl;exact cS4 hk' hsf hl hb h0
  | none=>
   have hso' :aR1 E.kp o.op=some a:=by unfold aV2 at hs;rw[hsf] at hs;exact hs
   refine cz8 hso' (fun f=>rfl) ?_ hl hb h0
   unfold bF3 at hso
   rw[hso'] at hso
   exact hso
 | off=>exact h0
 | gone=>exact h0
def aD5 (W:Nat→Prop) (σ σ' :i4):Prop:=∀(b:Nat) (B:A5),W b→sget σ b=some B→sget σ' b=some B
theorem aD5.refl {W:Nat→Prop} (σ:i4):aD5 W σ σ:=fun _ _ _ h=>h
theorem aD5.trans {W:Nat→Prop}{a b c:i4} (h:aD5 W a b) (h' :aD5 W b c):aD5 W a c:=fun _ _ hw x=>h' _ _ hw (h _ _ hw x)
theorem cL5 {S B W:Nat→Prop}{Y:Nat} (hY:∀k,S k→k<Y) {bv:Nat→Option Nat} (hD:aQ0 E ops S) (hT:ab4 [] (l9 E.P E.kp ops)=true) (hF:∀(j:Nat) (o:Oper),j<Y→ops.toList[j]? =some o→cd7 E C.fn.ntmps ops.toList (l9 E.P E.kp ops) fr σ0 dv sv bv j o)
  (hBS:∀k,B k→S k) (h3:∀k,S k→L8 (l9 E.P E.kp ops) k=3→B k∨((∃a,tSf (l9 E.P E.kp ops) k=some a)∧∀b,W b→bv k≠some b)) {τ:i4} (hτ:ad1 (L8 (l9 E.P E.kp ops)) sv σ0 B τ) (hσ:ad1 (L8 (l9 E.P E.kp ops)) sv σ0 S σ):aD5 W τ σ:=by
 have key:∀(p:Nat),S p→2≤L8 (l9 E.P E.kp ops) p→(∀k,B k→2≤L8 (l9 E.P E.kp ops) k→k≤p)→aD5 W τ (sv p):=by
  intro p
  induction p using Nat.strongRecOn with
  | _ p ih=>
   intro hp hc hmax
   by_cases hBp:B p
   ·rcases hτ with⟨m,m1,m2,m3,rfl⟩ | ⟨m1,_⟩
    ·have a:=m3 p hBp hc
     have b:=hmax m m1 m2
     have:m=p:=by omega
     subst this
     exact aD5.refl _
    ·exact absurd hc (m1 p hBp)
   ·have hplt:=hD.lt p hp
    obtain⟨o,t,ho,ht⟩:=aq0 (P:=E.P) (K:=E.kp) hplt
    have hkd:L8 (l9 E.P E.kp ops) p=T4 E.P E.kp ops.toList o:=by simp only[L8,ht];exact(ba6 ho ht).2.2.1
    obtain⟨g,τp,_,hst,hop,hbv⟩:=(hF p o (hY p hp) ho).fact
    have hstep:aD5 W τp (sv p):=by
     by_cases hk3:T4 E.P E.kp ops.toList o=3
     ·obtain⟨⟨a,ha⟩,hw⟩:=(h3 p hp (by rw[hkd,hk3])).resolve_left hBp
      have hsf:aV2 E.kp o.op=some a:=by rw[←bz5 ho ht];simpa only[tSf,ht] using ha
      intro b B hb h0
      refine hop.keep3 hk3 hsf ?_ h0
      have:=hw b hb
      rw[hbv,ha] at this
      exact this
     ·have hk2:T4 E.P E.kp ops.toList o=2:=by
       have h1:=cG5 E.P E.kp ops.toList o
       omega
      exact fun b B _ h0=>hop.keep hk2 b B h0
    refine aD5.trans ?_ hstep
    have hmB:∀m,B m→2≤L8 (l9 E.P E.kp ops) m→m<p∧Z2 (l9 E.P E.kp ops) p m=true:=fun m m1 m2=>by
     have h1:=hmax m m1 m2
     have h2:m≠p:=fun e=>hBp (e▸m1)
     have h4:m<p:=by omega
     refine⟨h4,(aR8 hT hplt h4).resolve_right fun hx=> ?_⟩
     rcases hx.2.2.2 with hx | hx
     ·rw[bB0 hc m2] at hx;cases hx
     ·have:=hx.kd;omega
    rcases hst with⟨q,⟨q1,q2⟩,q3,q4,rfl⟩ | ⟨q1,rfl⟩
    ·exact ih q q1 (hD.cl p q hp q2) q3 fun k k1 k2=>q4 k (hmB k k1 k2) k2
    ·rcases hτ with⟨m,m1,m2,m3,rfl⟩ | ⟨_,rfl⟩
     ·exact absurd m2 (q1 m (hmB m m1 m2))
     ·exact aD5.refl _
 rcases hσ with⟨p,p1,p2,p3,rfl⟩ | ⟨p1,rfl⟩
 ·exact key p p1 p2 fun k k1 k2=>p3 k (hBS k k1) k2
 ·rcases hτ with⟨m,m1,m2,m3,rfl⟩ | ⟨_,rfl⟩
  ·exact absurd m2 (p1 m (hBS m m1))
  ·exact aD5.refl _
end
section
variable {E : E7} {C : Cx} {Q : D → i4 → Prop} {w w' : World} {Im Im' : Nat → Prop} {φ φ' : o8} {σ σ' : i4} {ops : Array Oper} {fr : Fr} {σ0 : i4} {dv : Nat → D} {sv : Nat → i4} {bv : Nat → Option Nat}
theorem co1 {x:Operand}{t:Nat}{o:Oper} (h:x∈o.op.operands) (hx:x=.tmp t):t∈o.looksAt ops:=by
 subst hx
 simp only[Oper.looksAt,List.mem_append,List.mem_filterMap]
 exact .inl ⟨.tmp t,by simpa using h,rfl⟩
theorem bq7 {j sl:Nat}{want:Bool}{o:Oper} (h:o.guard=some (j,want)) (hs:bo4 ops.toList j=some sl):sl∈o.looksAt ops:=by
 simp only[Oper.looksAt,h,List.mem_append]
 refine .inr ?_
 simp only[bo4,Array.getElem?_toList] at hs
 split at hs
 ·rename_i g hg;rw[hg];simp[hs]
 ·cases hs
theorem cH1 {F:Fence}{nn lo:Nat} (hOF:OkF F) {S:Nat→Prop}{Y:Nat} (hY:∀k,S k→k<Y) {R:Exit→Act→World→Prop}{next:Act→World→Prop} (hD:aQ0 E ops S) (hT:ab4 [] (l9 E.P E.kp ops)=true) {i:Nat}{o:Oper} (ho:ops.toList[i]? =some o) (hn:¬S i) (hiY:i<Y)
  (hb:∀j,Z2 (l9 E.P E.kp ops) i j=true→S j)
  (hF:∀(j:Nat) (o:Oper),j<Y→ops.toList[j]? =some o→cd7 E C.fn.ntmps ops.toList (l9 E.P E.kp ops) fr σ0 dv sv bv j o)
  {g:Fr}{a:Act} (hg:V9 (U3 (l9 E.P E.kp ops)) dv fr S g) (hσ:ad1 (L8 (l9 E.P E.kp ops)) sv σ0 S σ) (h:ao6 E C lo w Im φ g σ a)
  (hk:∀g' σ' w' Im' φ' a',Nx w Im φ σ w' Im' φ' σ' →V9 (U3 (l9 E.P E.kp ops)) dv fr (fun x=>S x∨x=i) g' →ad1 (L8 (l9 E.P E.kp ops)) sv σ0 (fun x=>S x∨x=i) σ' →ao6 E C lo w' Im' φ' g' σ' a' →next a' w'):
  wpOpIn F nn E.P ops R i next a w:=by
 have hi:i<ops.size:=by have:=(List.getElem?_eq_some_iff.1 ho).1;simpa using this
 obtain⟨o',t,ho',ht⟩:=aq0 (P:=E.P) (K:=E.kp) hi
 rw[ho] at ho'
 obtain rfl:=Option.some.inj ho'
 obtain⟨t1,t2,t3,t4⟩:=ba6 ho ht
 have hdst:U3 (l9 E.P E.kp ops) i=o.dst:=by simp only[U3,ht,t2]
 have hkd:L8 (l9 E.P E.kp ops) i=T4 E.P E.kp ops.toList o:=by simp only[L8,ht,t3]
 have hlk:tLk (l9 E.P E.kp ops) i=o.looksAt ops:=by simp only[tLk,ht,t1]
 obtain⟨hd,⟨g0,τ,hg0,hτ,hop,hbv⟩,hdis⟩:=hF i o hiY ho
 have hsame:∀t,t∈o.looksAt ops→o5 g t=o5 g0 t:=fun t ht=>hg.same hg0 fun k hk=>cp8 hD hT hi hn hb (by rw[hlk];exact ht) k hk
 have hops:R8 E.P (C4 E.gl g) o=R8 E.P (C4 E.gl g0) o:=by
  funext s
  refine bT2 o fun x hx=> ?_
  cases x with
  | tmp t=>exact hsame t (co1 hx rfl)
  | _=>rfl
 have hput:V9 (U3 (l9 E.P E.kp ops)) dv fr (fun x=>S x∨x=i) (put g o.dst (dv i)):=by
  have:=hg.put (i:=i) (d:=dv i) rfl fun k t hk h1 h2=>cj2 hD hT hi hn hb k t hk h1 h2
  rwa [hdst] at this
 have hnx:Nx w Im φ σ w Im φ σ:=⟨l5.refl _,Nat.le_refl _,Tr.refl _ _ _ _ _,h.inv⟩
 have hbig:2≤T4 E.P E.kp ops.toList o→τ=σ∧ad1 (L8 (l9 E.P E.kp ops)) sv σ0 (fun x=>S x∨x=i) (sv i):=fun hc=>by
  rw[←hkd] at hc
  refine⟨(hσ.same hτ fun k hk=>ce1 hD hT hi hn hb hc k hk).symm,.inl ⟨i,.inr rfl,hc,fun k hk hck=>hk.elim (fun hk=> ?_) (fun e=>by omega),rfl⟩⟩
  exact Nat.le_of_lt ((ce1 hD hT hi hn hb hc k hck).1 hk).1
 have hsmall:¬2≤T4 E.P E.kp ops.toList o→ad1 (L8 (l9 E.P E.kp ops)) sv σ0 (fun x=>S x∨x=i) σ:=fun hc=>by
  rw[←hkd] at hc
  exact hσ.iff fun k hk2=>⟨.inl,fun x=>x.elim id fun e=>by subst e;exact absurd hk2 hc⟩
 have skip:dv i=.tup []→sv i=τ→next (a.put o.dst undef) w:=fun e1 e2=>by
  have hs:=h.step (hnx.mv h.inv h.m) hd (d:=.tup []) (v:=undef) (.tup [] #[] rfl (fun i d v a=>by simp at a)) h.fr
  by_cases hc:2≤T4 E.P E.kp ops.toList o
  ·obtain⟨b1,b2⟩:=hbig hc
   rw[e2,b1] at b2
   exact hk _ _ w Im φ _ hnx (e1▸hput) b2 hs
  ·exact hk _ _ w Im φ _ hnx (e1▸hput) (hsmall hc) hs
 have lit:sv i=τ→au2 ops.toList o=true→bA3 E.P (C4 E.gl g0) o=some (dv i)→o.wpIn F nn E.P a w next R:=fun hsv hlt hl=>by
  have hk0:T4 E.P E.kp ops.toList o=0:=by unfold T4;rw[hlt];rfl
  have hg' :C4 E.gl g0=C4 E.gl g0:=rfl
  have hl' :bA3 E.P (C4 E.gl g) o=some (dv i):=by
   rw[←hl]
   unfold bA3
   rw[bT2 o (ρ:=fun x=>bC8 (ch1 E.P o) (C4 E.gl g x)) (ρ' :=fun x=>bC8 (ch1 E.P o) (C4 E.gl g0 x)) fun x hx=> ?_]
   cases x with
   | tmp t=>simp only[C4];rw[hsame t (co1 hx rfl)]
   | _=>rfl
  refine hOF.wp (fun c hc=>by unfold au2 at hlt;rw[hc] at hlt;simp at hlt) ?_
  exact cM6 h.inv (fun x=>an4 h.sd.gl h.fr x) hl' fun v w' Im' n hr=>hk _ _ w' Im' φ _ n hput (hsmall (by omega)) (h.step (n.mv h.inv h.m) hd hr h.fr)
 have run:au2 ops.toList o=false→O1 E (kOp E.kp o.op) τ (R8 E.P (C4 E.gl g0) o τ) (dv i) (sv i)→o.wpIn F nn E.P a w next R:=fun hlf hl=>by
  have hkT:T4 E.P E.kp ops.toList o=aj1 E.P E.kp o.op:=by unfold T4;rw[hlf];rfl
  rw[hkT] at hkd hbig hsmall
  refine hOF.wp (fun c hc=>by rw[bq9 hc] at hl;cases hl) ?_
  by_cases hc:2≤aj1 E.P E.kp o.op
  ·obtain⟨b1,b2⟩:=hbig hc
   rw[b1,←hops] at hl
   exact cc6 h.sd.gl h.inv hl (aZ2 h.inv (fun x=>an4 h.sd.gl h.fr x) o) fun v w' Im' φ' n hr=>hk _ _ w' Im' φ' _ n hput b2 (h.step (n.mv h.inv h.m) hd hr h.fr)
  ·obtain⟨hko,hke⟩:=cM0 (P:=E.P) (K:=E.kp) (op:=o.op) (by omega)
   have hsk:aV2 E.kp o.op=ap0 o.op:=by
    unfold aV2
    cases hsf:ap0 o.op with
    | some a=>rfl
    | none=>
     cases hs:aR1 E.kp o.op with
     | none=>rfl
     | some a=>
      exfalso
      unfold aR1 at hs
      split at hs
      ·rename_i c hc
       split at hs
       ·rename_i f s hf ha
        have h1:Nat.ble 1 (E.kp f)=false:=by
         have:=hko
         rw[hc] at this
         simpa only[kOp,hf] using this
        have:Nat.beq (E.kp f) 3=false:=by
         cases h3:Nat.beq (E.kp f) 3 with
         | false=>rfl
         | true=>rw[Nat.eq_of_beq_eq_true h3] at h1;cases h1
        rw[this] at hs;cases hs
       ·cases hs
      ·cases hs
   have hsim:z3 τ σ (R8 E.P (C4 E.gl g0) o τ) (R8 E.P (C4 E.gl g0) o σ):=by
    by_cases h0:aj1 E.P E.kp o.op=0
    ·exact cl9 (C4 E.gl g0) o (by omega) (.inl (by omega))
    ·have h1:1≤L8 (l9 E.P E.kp ops) i:=by rw[hkd];omega
     have h1' :L8 (l9 E.P E.kp ops) i=1:=by rw[hkd];omega
     cases hsf:ap0 o.op with
     | none=>
      have hno:tSf (l9 E.P E.kp ops) i=none:=by rw[←hsf,←hsk,←bz5 ho ht];simp only[tSf,ht]
      have:=cL5 (C:=C) (W:=fun _=>True) hY hD hT hF (fun k hk=>hb k hk.2) (fun k hk hkk=>by
       rcases bT3 hD hT hi hn hb h1 k hk hkk with h | ⟨_,_,h⟩ | ⟨_,_,h⟩
       ·exact .inl h
       ·obtain⟨a,ha⟩:=h.looks.1 h1';rw[hno] at ha;cases ha
       ·obtain⟨a,ha⟩:=h.looks.2 h1';rw[hno] at ha;cases ha) hτ hσ
      exact cl9 (C4 E.gl g0) o (by omega) (.inr fun b B h=>this b B trivial h)
     | some a=>
      have hyes:tSf (l9 E.P E.kp ops) i=some a:=by rw[←hsf,←hsk,←bz5 ho ht];simp only[tSf,ht]
      have hbi:bv i=av5 (C4 E.gl g0 a):=by rw[hbv,hyes];rfl
      cases hb0:av5 (C4 E.gl g0 a) with
      | none=>exact ci0 (C4 E.gl g0) o (by omega) hsf fun b B hw h=>by rw[hb0] at hw;cases hw
      | some b0=>
       rw[hb0] at hbi
       have hdl:∀(s:Bool) (y:Option Nat),cq2 (some b0) s y=true→s=true∧y≠some b0:=fun s y h=>by
        simp only[cq2,Bool.and_eq_true] at h
        refine⟨h.1,fun e=> ?_⟩
        subst e
        simp at h
       have:=cL5 (C:=C) (W:=fun b=>b=b0) hY hD hT hF (fun k hk=>hb k hk.2) (fun k hk hkk=>by
        rcases bT3 hD hT hi hn hb h1 k hk hkk with h | ⟨q1,q2,q3⟩ | ⟨q1,q2,q3⟩
        ·exact .inl h
        ·obtain⟨ti,tk,e1,e2,e3⟩:=q3
         have hd2:=hdis k q1 q2 ti tk e1 e2 e3
         have k1:ti.kind=1:=by simpa only[L8,e1] using h1'
         simp only[Go.RX.dis,k1,Nat.beq_refl,cond_true,hbi] at hd2
         obtain⟨z1,z2⟩:=hdl _ _ hd2
         exact .inr ⟨by simp only[tSf,e2];exact Option.isSome_iff_exists.1 z1,fun b hw=>by rw[hw];exact z2⟩
        ·obtain⟨tk,ti,e2,e1,e3⟩:=q3
         obtain⟨ok,tk',hok,htk⟩:=aq0 (P:=E.P) (K:=E.kp) (hD.lt k hk)
         have hd2:=(hF k ok (hY k hk) hok).dis i q1 q2 tk ti e2 e1 e3
         have k3:tk.kind=3:=by simpa only[L8,e2] using hkk
         simp only[Go.RX.dis,k3,show Nat.beq 3 1=false from rfl,cond_false,hbi] at hd2
         obtain⟨z1,z2⟩:=hdl _ _ hd2
         exact .inr ⟨by simp only[tSf,e2];exact Option.isSome_iff_exists.1 z1,fun b hw=>by rw[hw];exact z2⟩) hτ hσ
       exact ci0 (C4 E.gl g0) o (by omega) hsf fun b B hw h=>this b B (by rw[hb0] at hw;exact(Option.some.inj hw).symm) h
   rw[hko] at hl
   have hl' :=hsim.leaf hl
   rw[←hops] at hl'
   exact cc6 h.sd.gl h.inv hl' (aZ2 h.inv (fun x=>an4 h.sd.gl h.fr x) o) fun v w' Im' φ' n hr=>hk _ _ w' Im' φ' _ n hput (hsmall hc) (h.step (n.mv h.inv h.m) hd hr h.fr)
 have hA:ops.toList.toArray=ops:=Array.toArray_toList
 have hoA:ops[i]? =some o:=by simpa using ho
 unfold wpOpIn
 rw[hoA]
 simp only
 generalize hdd:dv i=dd at hop run skip lit
 generalize hss:sv i=ss at hop run skip lit
 cases hop with
 | lit hgn hlt hl=>
  have hwant:Region.wanted o (yielded ops a.tmps)=true:=by simp[Region.wanted,hgn]
  rw[if_pos hwant]
  exact lit rfl hlt hl
 | run hlf _ hw hl=>
  have hwant:Region.wanted o (yielded ops a.tmps)=true:=by
   rcases hw with hw | ⟨j,want,sl,b,h1,h2,h3,h4⟩
   ·simp[Region.wanted,hw]
   ·rw[←hsame sl (bq7 h1 h2)] at h3
    have hrs:=h.fr sl
    rw[h3] at hrs
    have hy:=bd4 (j:=j) h2 hrs.bool_inv
    rw[hA] at hy
    simp only[Region.wanted,h1,hy]
    cases b<;>cases want<;>first | rfl | cases h4
  rw[if_pos hwant]
  exact run hlf hl
 | @off j sl want b h1 h2 h3 h4=>
  have hwant:Region.wanted o (yielded ops a.tmps)=false:=by
   rw[←hsame sl (bq7 h1 h2)] at h3
   have hrs:=h.fr sl
   rw[h3] at hrs
   have hy:=bd4 (j:=j) h2 hrs.bool_inv
   rw[hA] at hy
   simp only[Region.wanted,h1,hy]
   cases b<;>cases want<;>first | rfl | cases h4
  rw[hwant,if_neg (by simp)]
  exact⟨fun f _=>hOF.fn f,skip rfl rfl⟩
 | @gone j sl want vs h1 h2 h3=>
  have hwant:Region.wanted o (yielded ops a.tmps)=false:=by
   rw[←hsame sl (bq7 h1 h2)] at h3
   have hrs:=h.fr sl
   rw[h3] at hrs
   obtain⟨us,hv,_⟩:=hrs.tup_inv
   have hy:=bU3 (j:=j) h2 hv
   rw[hA] at hy
   simp only[Region.wanted,h1,hy]
   cases want<;>rfl
  rw[hwant,if_neg (by simp)]
  exact⟨fun f _=>hOF.fn f,skip rfl rfl⟩
def LS (l:Array Bool) (i:Nat):Prop:=l.getD i false=true
theorem aU9 {l:Array Bool}{i:Nat}:i∈Region.ready .any ops l↔i<ops.size∧l.getD i true=false∧∃o,ops[i]? =some o∧∀e∈o.after,Region.binds .any e=true→LS l e.on:=by
 simp only[Region.ready,List.mem_filter,List.mem_range,Bool.and_eq_true,Bool.not_eq_true',LS]
 constructor
 ·rintro ⟨h1,h2,h3⟩
  refine⟨h1,h2,?_⟩
  have hi:ops[i]? =some ops[i]:=by simp[h1]
  rw[hi] at h3
  refine⟨_,hi,fun e he hb=> ?_⟩
  simp only[Option.map_some,Option.getD_some,Array.all_eq_true_iff_forall_mem,Bool.or_eq_true,Bool.not_eq_true'] at h3
  exact(h3 e he).resolve_left (by rw[hb];simp)
 ·rintro ⟨h1,h2,o,ho,h3⟩
  refine⟨h1,h2,?_⟩
  rw[ho]
  simp only[Option.map_some,Option.getD_some,Array.all_eq_true_iff_forall_mem,Bool.or_eq_true,Bool.not_eq_true']
  intro e he
  cases hb:Region.binds .any e with
  | false=>exact .inl rfl
  | true=>exact .inr (h3 e he hb)
theorem bD5 (hE:an2 0 ops.toList=true) {l:Array Bool} (hsz:l.size=ops.size) (h:Region.ready .any ops l= []):∀i,i<ops.size→LS l i:=by
 intro i
 induction i using Nat.strongRecOn with
 | _ i ih=>
  intro hi
  cases hl:l.getD i false with
  | true=>exact hl
  | false=>
   exfalso
   have hm:i∈Region.ready .any ops l:=by
    refine aU9.2 ⟨hi,?_,ops[i],by simp[hi],fun e he hb=> ?_⟩
    ·have:i<l.size:=by omega
     simpa[this] using hl
    ·have:=bS5 _ 0 hE i ops[i] (by simp[hi]) e he hb
     have h2:e.on<i:=by omega
     exact ih e.on h2 (by omega)
   rw[h] at hm;simp at hm
theorem cy1 {l:Array Bool}{i j:Nat} (hi:i<l.size):LS (l.setIfInBounds i true) j↔LS l j∨j=i:=by
 simp only[LS,Array.getD_eq_getD_getElem?,Array.getElem?_setIfInBounds]
 by_cases h:i=j
 ·subst h;simp[hi]
 ·rw[if_neg h];exact⟨.inl,fun x=>x.resolve_right fun e=>h e.symm⟩
theorem bf9 {l:Array Bool} (hD:aQ0 E ops (LS l)) {i:Nat}{o:Oper} (ho:ops[i]? =some o) (h3:∀e∈o.after,Region.binds .any e=true→LS l e.on) {j:Nat} (hj:Z2 (l9 E.P E.kp ops) i j=true):LS l j:=by
 obtain⟨o',ho',e,he,hb,hx⟩:=cH5 hj
 have:o' =o:=by rw[Array.getElem?_toList,ho] at ho';exact(Option.some.inj ho').symm
 subst this
 rcases hx with rfl | hx
 ·exact h3 e he hb
 ·exact hD.cl e.on j (h3 e he hb) hx
theorem cu0 {F:Fence}{nn:Nat}{R:Exit→Act→World→Prop} (hE:an2 0 ops.toList=true) {y:Nat} (hy:∀i,y≤i→i<ops.size→∀j,j<i→Z2 (l9 E.P E.kp ops) i j=true):
  ∀(m k fuel:Nat) (l:Array Bool) (a:Act) (w:World),k+m=ops.size→y≤k→m≤fuel→l.size=ops.size→(∀i,LS l i↔i<k)→aQ0 E ops (LS l)→wpListIn F nn E.P ops R (ops.toList.drop k) a w→wpAnyIn F nn E.P .any ops R fuel l a w:=by
 have none_:∀(k:Nat) (l:Array Bool),k=ops.size→l.size=ops.size→(∀i,LS l i↔i<k)→Region.ready .any ops l= []:=fun k l hk hsz hl=>by
  refine List.eq_nil_iff_forall_not_mem.2 fun i hi=> ?_
  obtain⟨h1,h2,_⟩:=aU9.1 hi
  have:=(hl i).2 (by omega)
  have hlt:i<l.size:=by omega
  simp only[LS] at this
  simp[hlt] at h2 this
  rw[h2] at this;cases this
 intro m
 induction m with
 | zero=>
  intro k fuel l a w hk hyk hf hsz hl hD h
  have hr:=none_ k l (by omega) hsz hl
  have hd:ops.toList.drop k= []:=List.drop_eq_nil_of_le (by simp;omega)
  rw[hd] at h
  cases fuel with
  | zero=>exact⟨hr,h⟩
  | succ f=>exact⟨fun _=>h,fun i hi=>by rw[hr] at hi;cases hi⟩
 | succ m ih=>
  intro k fuel l a w hk hyk hf hsz hl hD h
  have hkl:k<ops.size:=by omega
  cases fuel with
  | zero=>omega
  | succ f=>
   refine⟨fun hr=> ?_,fun i hi=> ?_⟩
   ·exact absurd ((hl k).1 (bD5 hE hsz hr k hkl)) (by omega)
   ·obtain⟨h1,h2,o,ho,h3⟩:=aU9.1 hi
    have hni:¬LS l i:=fun hx=>by
     have hlt:i<l.size:=by omega
     simp only[LS] at hx
     simp[hlt] at h2 hx
     rw[h2] at hx;cases hx
    have hik:i=k:=by
     rcases Nat.lt_trichotomy i k with h | h | h
     ·exact absurd ((hl i).2 h) hni
     ·exact h
     ·exact absurd ((hl (i-1)).1 (bf9 hD ho h3 (hy i (by omega) h1 (i-1) (by omega)))) (by omega)
    subst hik
    have hdr:ops.toList.drop i=o::ops.toList.drop (i+1):=by
     rw[List.drop_eq_getElem_cons (by simpa using h1)]
     congr 1
     have:ops[i]=o:=by rw[Array.getElem?_eq_getElem h1] at ho;exact Option.some.inj ho
     simpa using this
    rw[hdr] at h
    have hiff:∀j,LS (l.setIfInBounds i true) j↔j<i+1:=fun j=>by rw[cy1 (by omega),hl j];omega
    have key:∀a w,wpListIn F nn E.P ops R (ops.toList.drop (i+1)) a w→wpAnyIn F nn E.P .any ops R f (l.setIfInBounds i true) a w:=fun a w hh=>by
     refine ih (i+1) f _ a w (by omega) (by omega) (by omega) (by simp[hsz]) hiff ⟨fun j hj=> ?_,fun j j' hj hj' =>(hiff j').2 ?_⟩ hh
     ·have:=(hiff j).1 hj;omega
     ·have h4:=(hiff j).1 hj
      by_cases hji:j=i
      ·subst hji
       have:=(hl j').1 (bf9 hD ho h3 hj')
       omega
      ·have:=(hl j').1 (hD.cl j j' ((hl j).2 (by omega)) hj')
       omega
    unfold wpOpIn
    rw[ho]
    simp only[wpListIn] at h ⊢
    split
    ·rename_i hw;rw[if_pos hw] at h;exact Oper.wpIn_mono key h
    ·rename_i hw;rw[if_neg hw] at h;exact⟨h.1,key _ _ h.2⟩
theorem cx4 {F:Fence}{nn lo:Nat} (hOF:OkF F) {R:Exit→Act→World→Prop} (hE:an2 0 ops.toList=true) (hT:ab4 [] (l9 E.P E.kp ops)=true) {Y:Nat} (hYs:Y≤ops.size)
  (hYb:∀i,Y≤i→i<ops.size→∀j,j<Y→Z2 (l9 E.P E.kp ops) i j=true)
  (hF:∀(j:Nat) (o:Oper),j<Y→ops.toList[j]? =some o→cd7 E C.fn.ntmps ops.toList (l9 E.P E.kp ops) fr σ0 dv sv bv j o)
  {w0:World}{Im0:Nat→Prop}{φ0:o8}{s0:i4}
  (hend:∀fuel l g σ w Im φ a,l.size=ops.size→cnt (fun i=> !l.getD i false) ops.size≤fuel→aQ0 E ops (LS l)→(∀i,LS l i↔i<Y)→Tr φ0.length w0 Im0 φ0 s0 w Im φ σ→V9 (U3 (l9 E.P E.kp ops)) dv fr (fun x=>x<Y) g→ad1 (L8 (l9 E.P E.kp ops)) sv σ0 (fun x=>x<Y) σ→ao6 E C lo w Im φ g σ a→wpAnyIn F nn E.P .any ops R fuel l a w):
  ∀(fuel:Nat) (l:Array Bool) (g:Fr) (σ:i4) (w:World) (Im:Nat→Prop) (φ:o8) (a:Act),l.size=ops.size→cnt (fun i=> !l.getD i false) ops.size≤fuel→aQ0 E ops (LS l)→(∀i,LS l i→i<Y)→
   φ0.length≤φ.length→Tr φ0.length w0 Im0 φ0 s0 w Im φ σ→V9 (U3 (l9 E.P E.kp ops)) dv fr (LS l) g→ad1 (L8 (l9 E.P E.kp ops)) sv σ0 (LS l) σ→ao6 E C lo w Im φ g σ a→wpAnyIn F nn E.P .any ops R fuel l a w:=by
 intro fuel
 induction fuel with
 | zero=>
  intro l g σ w Im φ a hsz hc hD hY hlen ht hg hs h
  have hall:∀i,i<ops.size→LS l i:=fun i hi=>by
   have:=cf5 (p:=fun i=> !l.getD i false) ops.size (by omega) i hi
   simpa[LS] using this
  have hiff:∀i,LS l i↔i<Y:=fun i=>⟨hY i,fun h=>hall i (by omega)⟩
  exact hend 0 l g σ w Im φ a hsz hc hD hiff ht (hg.iff hiff) (hs.iff fun j _=>hiff j) h
 | succ fuel ih=>
  intro l g σ w Im φ a hsz hc hD hY hlen ht hg hs h
  by_cases hall:∀i,i<Y→LS l i
  ·have hiff:∀i,LS l i↔i<Y:=fun i=>⟨hY i,hall i⟩
   exact hend (fuel+1) l g σ w Im φ a hsz hc hD hiff ht (hg.iff hiff) (hs.iff fun j _=>hiff j) h
  refine⟨fun hr=>absurd (fun i hi=>bD5 hE hsz hr i (by omega)) hall,fun i hi=> ?_⟩
  obtain⟨h1,h2,o,ho,h3⟩:=aU9.1 hi
  have hlt:i<l.size:=by omega
  have hfalse:l.getD i false=false:=by simp[hlt] at h2 ⊢;exact h2
  have hn:¬LS l i:=by simp only[LS,hfalse];simp
  have hbf:∀j,Z2 (l9 E.P E.kp ops) i j=true→LS l j:=fun j hj=>bf9 hD ho h3 hj
  have hiY:i<Y:=by
   rcases Nat.lt_or_ge i Y with h | h
   ·exact h
   ·exact absurd (fun j hj=>hbf j (hYb i h h1 j hj)) hall
  refine cH1 hOF hY hD hT (by simpa using ho) hn hiY hbf hF hg hs h fun g' σ' w' Im' φ' a' n hg' hs' h' => ?_
  have hiff:∀j,(LS l j∨j=i)↔LS (l.setIfInBounds i true) j:=fun j=>(cy1 hlt).symm
  refine ih _ g' σ' w' Im' φ' a' (by simp[hsz]) ?_ ⟨fun j hj=> ?_,fun j k hj hk=> ?_⟩ (fun j hj=>((hiff j).2 hj).elim (hY j) fun e=>by omega) (Nat.le_trans hlen n.len) (ht.trans (n.tr.le hlen)) (hg'.iff hiff) (hs'.iff fun j _=>hiff j) h'
  ·have:=cf0 (p:=fun i=> !l.getD i false) (p' :=fun j=> !(l.setIfInBounds i true).getD j false) (i:=i) (by simp[hfalse]) (by have:=(hiff i).1 (.inr rfl);simp only[LS] at this;simp[this]) (fun j hj=>by
    simp only[Array.getD_eq_getD_getElem?,Array.getElem?_setIfInBounds]
    rw[if_neg fun e=>hj e.symm]) ops.size h1
   omega
  ·rcases(hiff j).2 hj with hj | rfl
   ·exact hD.lt j hj
   ·exact h1
  ·rcases(hiff j).2 hj with hj | rfl
   ·exact(hiff k).1 (.inl (hD.cl j k hj hk))
   ·exact(hiff k).1 (.inl (hbf k hk))
theorem bK0:∀{i:Nat}{ts:List x9},bC7 i ts=true→∀(x:Nat) (t:x9),ts[x]? =some t→∀j,j<i+x→t.before.testBit j=true
 | _,[],_,x,t,h=>by simp at h
 | i,t' ::ts,h,x,t,ht=>by
  simp only[bC7,Bool.and_eq_true,List.all_eq_true,List.mem_range] at h
  cases x with
  | zero=>
   obtain rfl:t' =t:=by simpa using ht
   exact fun j hj=>h.1 j hj
  | succ x=>
   intro j hj
   exact bK0 h.2 x t (by simpa using ht) j (by omega)
theorem bE5:∀{i:Nat}{l:List Oper}{ts:List x9}{y:Nat},aS8 i l ts=some y→i≤y∧y<i+l.length∧∀(x:Nat) (t:x9),y≤i+x→ts[x]? =some t→∀j,j<i+x→t.before.testBit j=true
 | i,[],ts,y,h=>by simp[aS8] at h
 | i,o::l,[],y,h=>by simp[aS8] at h
 | i,o::l,t::ts,y,h=>by
  simp only[aS8,Bool.cond_eq_ite] at h
  split at h
  ·rename_i hc
   obtain rfl:=Option.some.inj h
   rw[Bool.and_eq_true] at hc
   exact⟨Nat.le_refl _,by simp,fun x t' _ hx=>bK0 hc.2 x t' hx⟩
  ·obtain⟨h1,h2,h3⟩:=bE5 h
   refine⟨by omega,by simp;omega,fun x t' hx ht j hj=> ?_⟩
   cases x with
   | zero=>omega
   | succ x=>exact h3 x t' (by omega) (by simpa using ht) j (by omega)
theorem cE6 {ops:Array Oper}{y:Nat} (h:aS8 0 ops.toList (l9 E.P E.kp ops)=some y):y≤ops.size∧∀i,y≤i→i<ops.size→∀j,j<i→Z2 (l9 E.P E.kp ops) i j=true:=by
 obtain⟨-,h2,h3⟩:=bE5 h
 refine⟨by simp at h2;omega,fun i hi hs j hj=> ?_⟩
 obtain⟨o,t,ho,ht⟩:=aq0 (P:=E.P) (K:=E.kp) hs
 simp only[Z2,ht]
 exact h3 i t (by omega) ht j (by omega)
theorem bR5 {F:Fence}{nn lo:Nat} (hOF:OkF F) (hm:E.P.follows .mixedOrders=true) {a:Act} (h:ao6 E C lo w Im φ fr σ a) {id:Nat}{ops:Array Oper}{R:Exit→Act→World→Prop}{k:Fr→i4→Qy}{Y:Nat} (hYs:Y≤ops.size)
  (hYb:∀i,Y≤i→i<ops.size→∀j,j<i→Z2 (l9 E.P E.kp ops) i j=true)
  (hk:∀fr' σ' w' Im' φ' a',Tr φ.length w Im φ σ w' Im' φ' σ' →ao6 E C lo w' Im' φ' fr' σ' a' →i6 E C Q (k fr' σ')→wpListIn F nn E.P ops R (ops.toList.drop Y) a' w')
  (hq:i6 E C Q (bs7 E C.fn.ntmps ops Y fr σ k)):(Code.region id ops true).wpIn F nn E.P R a w:=by
 unfold bs7 at hq
 cases hc:(an2 0 ops.toList&&ab4 [] (l9 E.P E.kp ops)) with
 | false=>rw[hc] at hq;exact hq.elim
 | true=>
  rw[hc] at hq
  simp only[Bool.and_eq_true] at hc
  have hlen:(ops.toList.take Y).length=Y:=by simp;omega
  obtain⟨dv,sv,bv,_,hF,g',σ',hg,hs,hq'⟩:=bn1 (fr:=fr) (fun i o t ho ht=>(ba6 ho ht).2.1) (ops.toList.take Y) ((l9 E.P E.kp ops).take Y) 0 fr [] [] (fun _=> .undef) (fun _=> []) (fun _=>none) (fun x hx=>by rw[Nat.zero_add,List.getElem?_take_of_lt (by omega)]) (fun x hx=>by rw[Nat.zero_add,List.getElem?_take_of_lt (by rw[List.length_take] at hx;omega)]) .nil (fun k t hk _=>absurd hk (Nat.not_lt_zero _)) (fun t=> .inr ⟨fun k hk=>by omega,rfl⟩) hq
  rw[hlen] at hF hg hs
  rw[Nat.zero_add] at hF hg hs
  have hF' :∀(j:Nat) (o:Oper),j<Y→ops.toList[j]? =some o→cd7 E C.fn.ntmps ops.toList (l9 E.P E.kp ops) fr σ dv sv bv j o:=fun j o hj ho=>hF j o (Nat.zero_le _) hj ho
  have hdw:({ w with drawn:=w.drawn+1 }:World)=w.drew:=rfl
  refine wpIn_region_any hm ?_
  rw[hdw]
  refine cx4 hOF (C:=C) hc.1 hc.2 hYs (fun i hi h1 j hj=>hYb i hi h1 j (by omega)) hF' (w0:=w) (Im0:=Im) (φ0:=φ) (s0:=σ) (fun fuel l g2 σ2 w2 Im2 φ2 a2 hsz hcn hD hl ht hg2 hs2 h2=> ?_) ops.size _ fr σ w.drew Im φ a (by simp) ?_ ⟨fun i hi=> ?_,fun i j hi _=> ?_⟩ (fun i hi=> ?_) (Nat.le_refl _) (Tr.drew _ _ _ _ _) (fun t=> .inr ⟨fun k hk=> ?_,rfl⟩) (.inr ⟨fun k hk=> ?_,rfl⟩) ⟨fun t=>(Tr.drew φ.length w Im φ σ).rel h.inv (l5.refl _) (h.fr t),h.inv.drew,h.sd.tr h.m h.inv (Tr.drew φ.length _ _ _ _) h.inv.drew,h.sz,h.m⟩
  ·have e1:∀t,o5 g' t=o5 g2 t:=fun t=>hg.same hg2 fun k _=>Iff.rfl
   have e2:σ' =σ2:=hs.same hs2 fun k _=>Iff.rfl
   subst e2
   refine cu0 hc.1 hYb (ops.size-Y) Y fuel l a2 w2 (by omega) (Nat.le_refl _) ?_ hsz hl hD (hk g' σ' w2 Im2 φ2 a2 ht ⟨fun t=>by rw[e1];exact h2.fr t,h2.inv,h2.sd,h2.sz,h2.m⟩ hq')
   have key:∀n,Y≤n→n-Y≤cnt (fun i=> !l.getD i false) n:=fun n=>by
    induction n with
    | zero=>intro _;omega
    | succ n ih=>
     intro hn
     simp only[cnt]
     by_cases hy:Y≤n
     ·have hf:l.getD n false=false:=by
       cases hx:l.getD n false with
       | false=>rfl
       | true=>exact absurd ((hl n).1 hx) (by omega)
      have:=ih hy
      simp only[hf,Bool.not_false,if_true]
      omega
     ·split<;>omega
   exact Nat.le_trans (key ops.size hYs) hcn
  ·have:∀(p:Nat→Bool) (n:Nat),cnt p n≤n:=fun p n=>by
    induction n with
    | zero=>exact Nat.le_refl _
    | succ n ih=>simp only[cnt];split<;>omega
   exact this _ _
  all_goals
   exfalso
   simp only[LS,Array.getD_eq_getD_getElem?,Array.getElem?_replicate] at*
   first
   | (split at hi<;>simp at hi;done)
   | (split at hk<;>simp at hk;done)
end
open Go.RowKit
section
variable {E : E7} {C C' : Cx} {Q : D → i4 → Prop} {w w' : World} {Im Im' : Nat → Prop} {φ φ' : o8} {σ σ' : i4}
theorem Inv.ext (hi:Inv w Im φ σ) (hsz:w.heap.size≤w'.heap.size) (hs:∀c,c<w.heap.size→(Im c∨m8 φ σ c)→w'.heap[c]? =w.heap[c]?):Inv w' Im φ σ:=
 ⟨hi.len,fun b B l h1 h2=>(hi.blk b B l h1 h2).of_heap (fun hp=>hs _ ((hi.blk b B l h1 h2).lt hp) (.inr ⟨b,B,l,h2,h1,rfl,hp⟩)) hsz (fun _ h=>h) (fun c hc=>hs c (hi.im c hc) (.inl hc)) (l5.refl _),hi.inj,hi.sep,fun c hc=>Nat.lt_of_lt_of_le (hi.im c hc) hsz⟩
theorem Inv.apart (hi:Inv w Im φ σ) {ids:List Nat}{f:D→Option D} (hsub:C6 f (x7 σ ids)=some σ'):∀c,m8 φ (u9 (fun i=> !(ids.contains i)) 0 σ) c→¬m8 (G2 φ ids) σ' c:=by
 rintro c ⟨b,B,l,a1,a2,a3,hp⟩ ⟨j,B',l',e1,e2,e3,hp'⟩
 obtain⟨a4,a5⟩:=an5 a2
 obtain⟨B0,hB0,_⟩:=(J9 hsub).2 j B' e2
 obtain⟨b',hb',hB'⟩:=aW0 hB0
 obtain⟨l0,hl0,_⟩:=hi.loc hB'
 rw[ai0 hb',au5,hl0] at e1
 obtain rfl:l0=l' :=by simpa using e1
 have hne:b' ≠b:=fun e=>by
  subst e
  rw[Nat.zero_add] at a5
  have:ids.contains b' =true:=by simpa using List.mem_of_getElem? hb'
  rw[this] at a5;cases a5
 exact hi.inj b' b B0 B l0 l hne hl0 a1 hB' a4 hp' hp (e3.trans a3.symm)
theorem bP6:∀(l:List Nat) (m:Nat),m≤bz4 m l∧∀b∈l,b<bz4 m l
 | [],m=>⟨Nat.le_refl _,fun b hb=>by cases hb⟩
 | b::l,m=>by
  obtain⟨h1,h2⟩:=bP6 l (bif Nat.blt b m then m else b+1)
  have h3:m≤(bif Nat.blt b m then m else b+1)∧b<(bif Nat.blt b m then m else b+1):=by
   cases hb:Nat.blt b m with
   | true=>exact⟨Nat.le_refl _,Nat.lt_of_succ_le (Nat.le_of_ble_eq_true hb)⟩
   | false=>
    refine⟨?_,Nat.lt_succ_self b⟩
    rcases Nat.lt_or_ge b m with h | h
    ·have:Nat.blt b m=true:=Nat.ble_eq_true_of_le h
     rw[this] at hb;cases hb
    ·simp only[cond_false];omega
  refine⟨Nat.le_trans h3.1 h1,fun c hc=> ?_⟩
  rcases List.mem_cons.1 hc with rfl | hc
  ·exact Nat.lt_of_lt_of_le h3.2 h1
  ·exact h2 c hc
theorem bT9 {p:Nat→Bool}:∀{i:Nat}{σ:i4}{b:Nat}{B:A5},sget σ b=some B→p (i+b)=true→sget (u9 p i σ) b=some B
 | _,[],b,B,h,_=>by simp[sget] at h
 | i,x::r,0,B,h,hp=>by
  simp only[u9,sget,List.getElem?_cons_zero] at h ⊢
  rw[Nat.add_zero] at hp
  rw[hp];exact h
 | i,x::r,b+1,B,h,hp=>by
  have:sget (u9 p (i+1) r) b=some B:=bT9 (by simpa only[sget,List.getElem?_cons_succ] using h) (by rw[←hp];congr 1;omega)
  simpa only[u9,sget,List.getElem?_cons_succ] using this
theorem cc5 {p:Nat→Bool} (hp:∀i,p i=true):∀(i:Nat) (σ:i4),u9 p i σ=σ
 | _,[]=>rfl
 | i,x::r=>by simp only[u9,hp,cond_true,cc5 hp (i+1) r]
def rem (ids:List Nat) (σ:i4):i4:=u9 (fun i=> !(ids.contains i)) 0 σ
theorem co5 (σ:i4):rem [] σ=σ:=cc5 (fun i=>rfl) 0 σ
theorem Inv.fill {ids:List Nat}{sub σ0:i4}{n:Nat} (h1:Inv w Im φ' (rem ids σ)) (h2:Inv w Im (G2 φ ids) sub) (hd:∀c,m8 φ' (rem ids σ) c→¬m8 (G2 φ ids) sub c) (hin:∀b∈ids,b<φ.length∧φ'[b]? =φ[b]?)
  (hb:C6 (tr (M8 (au6 ids n)) l8) sub=some (x7 σ0 ids)) (hB:x7 σ ids=x7 σ0 ids):Inv w Im φ' σ∧∀c,m8 φ' σ c→m8 φ' (rem ids σ) c∨m8 (G2 φ ids) sub c:=by
 rw[←hB] at hb
 obtain⟨q1,q2⟩:=J9 hb
 have hget:∀b B l,sget σ b=some B→φ'[b]? =some l→(sget (rem ids σ) b=some B)∨∃j B2,ids[j]? =some b∧sget sub j=some B2∧(G2 φ ids)[j]? =some l∧az8 (tr (M8 (au6 ids n)) l8) (some B2)=some (some B):=fun b B l a1 a2=>by
  by_cases hm:b∈ids
  ·obtain⟨j,hj⟩:=List.getElem?_of_mem hm
   right
   have hp:sget (x7 σ ids) j=some B:=by
    rw[J5] at a1 ⊢
    simp only[x7,List.getElem?_map,hj,Option.map_some]
    rw[a1]
   obtain⟨B2,hB2,h5⟩:=q2 j B hp
   obtain⟨g1,g2⟩:=hin b hm
   refine⟨j,B2,hj,hB2,?_,h5⟩
   rw[ai0 hj,au5,←g2,a2];rfl
  ·left
   exact bT9 a1 (by simpa using hm)
 have hown:∀c,m8 φ' σ c→m8 φ' (rem ids σ) c∨m8 (G2 φ ids) sub c:=fun c ⟨b,B,l,a1,a2,a3,a4⟩=>by
  rcases hget b B l a2 a1 with h | ⟨j,B2,_,h3,h4,_⟩
  ·exact .inl ⟨b,B,l,a1,h,a3,a4⟩
  ·exact .inr ⟨j,B2,l,h4,h3,a3,a4⟩
 refine⟨⟨by have:=h1.len;rw[rem,aG5] at this;exact this,fun b B l a1 a2=> ?_,fun b b' B B' l l' hne a1 a2 a3 a4 p1 p2=> ?_,fun c hc ho=> ?_,h1.im⟩,hown⟩
 ·rcases hget b B l a1 a2 with h | ⟨j,B2,h0,h3,h4,h5⟩
  ·exact h1.blk b B l h a2
  ·refine ah6 (fun _ h=>h) (fun d d' v a b' =>ak4 (fun _ h=>h) (fun j1 c1 l1 e1 e2=> ?_) l8 d d' v a b') (as4 (aq4 _) l8) h5 (h2.blk j B2 l h3 h4)
   have hj1:=(List.getElem?_eq_some_iff.1 e2).1
   simp only[G2,List.length_map] at hj1
   simp only[au6,Bool.cond_eq_ite] at e1
   rw[if_pos (show Nat.blt j1 ids.length=true from Nat.ble_eq_true_of_le hj1)] at e1
   obtain⟨g1,g2⟩:=hin c1 (List.mem_of_getElem? e1)
   rw[g2]
   rw[ai0 e1,au5,List.getElem?_eq_getElem g1] at e2
   rw[List.getElem?_eq_getElem g1]
   simpa using e2
 ·rcases hget b B l a3 a1 with h | ⟨j,B2,g0,g3,g4,_⟩<;>rcases hget b' B' l' a4 a2 with h' | ⟨j',C2,k0,k3,k4,_⟩
  ·exact h1.inj b b' B B' l l' hne a1 a2 h h' p1 p2
  ·exact fun e=>hd l.blk ⟨b,B,l,a1,h,rfl,p1⟩ ⟨j',C2,l',k4,k3,e.symm,p2⟩
  ·exact fun e=>hd l'.blk ⟨b',B',l',a2,h',rfl,p2⟩ ⟨j,B2,l,g4,g3,e,p1⟩
  ·refine h2.inj j j' B2 C2 l l' (fun e=> ?_) g4 k4 g3 k3 p1 p2
   subst e
   exact hne (Option.some.inj (g0.symm.trans k0))
 ·rcases hown c ho with h | h
  ·exact h1.sep c hc h
  ·exact h2.sep c hc h
theorem bc6 {P:Program}{s:Sem Next}:∀(r:p9) (x:D×i4),aq2 P w Im φ σ s r→cg8 r=some x→aq2 P w Im φ σ s (.ok x.1 x.2)
 | .ok d s,x,h,e=>by obtain rfl:=Option.some.inj e;exact h
 | .need b q,x,h,e=>by
  cases b with
  | true=>exact bc6 q x (h rfl) e
  | false=>cases e
 | .row r k,x,h,e=>by
  cases r with
  | some y=>exact bc6 (k y) x (h y rfl) e
  | none=>cases e
 | .rows r k,x,h,e=>bc6 (k r) x h e
 | .split ..,_,_,e=>by cases e
 | .any ..,_,_,e=>by cases e
 | .str ..,_,_,e=>by cases e
 | .call ..,_,_,e=>by cases e
 | .yld ..,_,_,e=>by cases e
 | .bad,_,_,e=>by cases e
theorem Nx.refl (hi:Inv w Im φ σ):Nx w Im φ σ w Im φ σ:=⟨l5.refl _,Nat.le_refl _,Tr.refl _ _ _ _ _,hi⟩
theorem Nx.trans {w1:World}{φ1:o8}{σ1:i4}{w2:World}{φ2:o8}{σ2:i4} (a:Nx w Im φ σ w1 Im φ1 σ1) (b:Nx w1 Im φ1 σ1 w2 Im φ2 σ2):Nx w Im φ σ w2 Im φ2 σ2:=
 ⟨fun c l h=>b.le c l (a.le c l h),Nat.le_trans a.len b.len,a.tr.trans (b.tr.le a.len),b.inv⟩
theorem bS3 {E:E7}{F:Fence} (hF:OkF F) {nf:Nat}{all:Array Oper}{R:Exit→Act→World→Prop}{n:Nat}:∀(l:List Oper) (w:World) (φ:o8) (σ:i4) (fr:Fr) (x:Fr×i4) (a:Act),GlOk E w Im→Inv w Im φ σ→bl0 E n l fr σ=some x→(∀t,i7 w Im φ (o5 fr t) (a.tmps.getD t undef))→a.tmps.size=n→
  (∀a' w' φ',(∀t,i7 w' Im φ' (o5 x.1 t) (a'.tmps.getD t undef))→a'.tmps.size=n→a'.defers=a.defers→Nx w Im φ σ w' Im φ' x.2→R .normal a' w')→wpListIn F nf E.P all R l a w
 | [],w,φ,σ,fr,x,a,hgl,hi,h,hr,hs,hk=>by
  simp only[bl0,Option.some.injEq] at h
  subst h
  exact hk a w φ hr hs rfl (.refl hi)
 | o::l,w,φ,σ,fr,x,a,hgl,hi,h,hr,hs,hk=>by
  simp only[bl0] at h
  split at h
  ·rename_i y hg hd hx
   simp only[wpListIn]
   rw[if_pos (by simp[Region.wanted,hg])]
   refine hF.wp (fun c hc=>by rw[bq9 hc] at hx;cases hx) ?_
   have hsat:=bc6 _ _ (aZ2 hi (fun x=>an4 hgl hr x) o) hx
   obtain⟨v,w1,φ1,h1,h2⟩:=hsat
   have n1:Nx w Im φ σ w1 Im φ1 y.2:=h2.nx h2.le.length
   have fin:wpListIn F nf E.P all R l (a.put o.dst v) w1:=bS3 hF l w1 φ1 y.2 _ x _ (hgl.mono (fun _ h=>h) (n1.tr.keeps hi)) n1.inv h
    (bL9 (fun t=>(hr t).mono (fun _ h=>h) (n1.tr.keeps hi) n1.le) hs hd h2.rel) (by rw[cf3];exact hs)
    fun a' w' φ' k1 k2 k3 k4=>hk a' w' φ' k1 k2 (by rw[k3,cC9]) (n1.trans k4)
   unfold Oper.wp
   rcases h1 with h1 | ⟨h1,rfl⟩
   ·rw[h1];exact fin
   ·rw[h1];exact fin
  ·cases h
theorem bP0 {E:E7}{F:Fence} (hF:OkF F) {nf n:Nat}:∀(c:Code) (w:World) (φ:o8) (σ:i4) (fr:Fr) (x:Fr×i4) (a:Act) (R:Exit→Act→World→Prop),GlOk E w Im→Inv w Im φ σ→ch7 E n c fr σ=some x→(∀t,i7 w Im φ (o5 fr t) (a.tmps.getD t undef))→a.tmps.size=n→
  (∀a' w' φ',(∀t,i7 w' Im φ' (o5 x.1 t) (a'.tmps.getD t undef))→a'.tmps.size=n→a'.defers=a.defers→Nx w Im φ σ w' Im φ' x.2→R .normal a' w')→c.wpIn F nf E.P R a w
 | .skip,w,φ,σ,fr,x,a,R,hgl,hi,h,hr,hs,hk=>by
  obtain rfl:=Option.some.inj h
  exact wpIn_skip (hk a w φ hr hs rfl (.refl hi))
 | .region i ops false,w,φ,σ,fr,x,a,R,hgl,hi,h,hr,hs,hk=>wpIn_region_list (bS3 hF _ w φ σ fr x a hgl hi h hr hs hk)
 | .seq c1 c2,w,φ,σ,fr,x,a,R,hgl,hi,h,hr,hs,hk=>by
  simp only[ch7] at h
  split at h
  ·rename_i y hy
   refine wpIn_seq (bP0 hF c1 w φ σ fr y a _ hgl hi hy hr hs fun a1 w1 φ1 k1 k2 k3 k4=> ?_)
   refine bP0 hF c2 w1 φ1 y.2 y.1 x a1 _ (hgl.mono (fun _ h=>h) (k4.tr.keeps hi)) k4.inv h k1 k2 fun a2 w2 φ2 m1 m2 m3 m4=>hk a2 w2 φ2 m1 m2 (by rw[m3,k3]) (k4.trans m4)
  ·cases h
 | .region _ _ true,_,_,_,_,_,_,_,_,_,h,_,_,_=>by cases h
 | .cond ..,_,_,_,_,_,_,_,_,_,h,_,_,_=>by cases h
 | .block ..,_,_,_,_,_,_,_,_,_,h,_,_,_=>by cases h
 | .loop ..,_,_,_,_,_,_,_,_,_,h,_,_,_=>by cases h
 | .rangeFunc ..,_,_,_,_,_,_,_,_,_,h,_,_,_=>by cases h
 | .exit ..,_,_,_,_,_,_,_,_,_,h,_,_,_=>by cases h
 | .scope ..,_,_,_,_,_,_,_,_,_,h,_,_,_=>by cases h
 | .label ..,_,_,_,_,_,_,_,_,_,h,_,_,_=>by cases h
 | .goto ..,_,_,_,_,_,_,_,_,_,h,_,_,_=>by cases h
 | .ret,_,_,_,_,_,_,_,_,_,h,_,_,_=>by cases h
 | .refuse ..,_,_,_,_,_,_,_,_,_,h,_,_,_=>by cases h
theorem bT6:∀(ps:List Nat) (ys:List D) (vs:List Value) (fr:Fr) (tmps:Array Value) (n:Nat),ps.all (fun p=>Nat.blt p n)=true→tmps.size=n→E3 w Im φ ys vs→(∀t,i7 w Im φ (o5 fr t) (tmps.getD t undef))→
  (∀t,i7 w Im φ (o5 (ct2 ps ys fr) t) (((ps.zip vs).foldl (fun t (x:Nat×Value)=>t.setIfInBounds x.1 x.2) tmps).getD t undef))∧((ps.zip vs).foldl (fun t (x:Nat×Value)=>t.setIfInBounds x.1 x.2) tmps).size=n
 | [],ys,vs,fr,tmps,n,_,hs,_,hr=>by cases ys<;>exact⟨hr,hs⟩
 | p::ps,[],vs,fr,tmps,n,_,hs,hv,hr=>by
  have:vs= []:=List.eq_nil_of_length_eq_zero (by rw[←hv.1];rfl)
  subst this
  exact⟨hr,hs⟩
 | p::ps,y::ys,[],fr,tmps,n,_,hs,hv,hr=>by have:=hv.1;simp at this
 | p::ps,y::ys,v::vs,fr,tmps,n,hp,hs,hv,hr=>by
  simp only[List.all_cons,Bool.and_eq_true] at hp
  refine bT6 ps ys vs _ _ n hp.2 (by rw[Array.size_setIfInBounds];exact hs) ⟨by have:=hv.1;simpa using this,fun i d v' a b=>hv.2 (i+1) d v' (by simpa using a) (by simpa using b)⟩ ?_
  exact bL9 (a:=⟨tmps,[]⟩) (dst:=some p) hr hs hp.1 (hv.2 0 y v rfl rfl)
def bI5:Nat→Code
 | 0=> .skip
 | 1=> .ret
 | n+2=> .exit n
def JL (rec:LoopState→Option Code→Loop) (mm l b:Nat) (w:World) (Im:Nat→Prop) (φ:o8) (σ:i4) (ids:List Nat) (B:i4→Prop) (R:List D→i4→(D→i4→Prop)→Prop) (A:Nat→i4→Prop) (Yo:Option (List (List D))) (W:World) (I X:Nat→Prop):Prop:=
 ∃φ' σf σ',σ' =rem ids σf∧B σf∧Tr mm w Im φ σ W I φ' σ' ∧Inv W I φ' σ' ∧W.heap[b]? =some (.deferred (some []))∧(¬I l∧¬I b∧¬m8 φ' σ' l∧¬m8 φ' σ' b)∧(∀c,X c↔(m8 φ' σ' c∨c=l∨c=b))∧
  (match Yo with
   | some Y=>W.heap[l]? =some (.loop (rec .ready none))∧Rng B R A Y σf
   | none=>∃n,n≠0∧W.heap[l]? =some (.loop (rec .done (some (bI5 n))))∧A n σf)
theorem cl7 {e:Exit}{n:Nat} (h:bm8 e=some n):(n=0∧e=.normal)∨(n≠0∧((n=1∧e=.ret)∨∃id,n=id+2∧e=.exit id)):=by
 cases e<;>simp[bm8] at h
 ·exact .inl ⟨h.symm,rfl⟩
 ·exact .inr ⟨by omega,.inr ⟨_,h.symm,rfl⟩⟩
 ·exact .inr ⟨by omega,.inl ⟨h.symm,rfl⟩⟩
theorem cX8 {F:Fence}{nf lo:Nat} (hF:OkC C F) {t:List It}{fr:Fr}{a:Act} (hs:ao6 E C lo w Im φ fr σ a) (hrb:C.rb=false) (hit:C.it=false) {f:Operand}{ps:Array Nat}{asg body:Code}{R:Exit→Act→World→Prop} (hR:∀e a' w',N5 E C lo Q w Im φ σ e a' w' →R e a' w')
  (hq:i6 E C Q (cF2 E C t fr σ (C4 E.gl fr f) ps asg body)):(Code.rangeFunc f ps asg body).wpIn F nf E.P (sem F nf E.P R t) a w:=by
 obtain rfl:=hF.1 hrb
 unfold cF2 at hq
 split at hq
 rotate_left
 ·exact hq.elim
 rename_i g caps hd
 simp only at hq
 generalize hids:ai5 σ 200 [] (caps.flatMap (ae7 l8))=ids at hq
 split at hq
 rotate_left
 ·exact hq.elim
 rename_i caps' sub fr1 h1 h2 h3 hfr1
 simp only[Bool.and_eq_true] at h1
 obtain⟨⟨⟨⟨⟨h0,h0'⟩,hcal⟩,hps⟩,hCm⟩,hmσ⟩:=h1
 have hCm:=Nat.le_of_ble_eq_true hCm
 have hmσ:=Nat.le_of_ble_eq_true hmσ
 generalize hmm0:bz4 (bif (E.pol g).lend then bz4 C.m ids else C.m) (fr.flatMap fun x=>ae7 l8 x.2)=mm at*
 obtain⟨hnd,-⟩:=bh3 h0
 have hin:∀b∈ids,b<σ.length:=fun b hb=>Nat.lt_of_succ_le (Nat.le_of_ble_eq_true (List.all_eq_true.1 h0' b hb))
 obtain⟨lids,σR,hlid,hmml,hback,Y,hseq,hrng⟩:∃(lids:List Nat) (σR:i4),(lids=ids∧σR=σ∨lids= []∧σR=u9 (fun i=> !(ids.contains i)) 0 σ)∧(∀b∈lids,b<mm)∧i6 E C Q (.rng mm g caps' sub σR lids (bg4 E C.fn.ntmps ps asg body fr1) (bl5 t fr1)):=by
  cases hle:(E.pol g).lend with
  | true=>
   rw[hle,cond_true] at hq
   refine⟨ids,σ,.inl ⟨rfl,rfl⟩,fun b hb=> ?_,hq⟩
   rw[←hmm0,hle]
   exact Nat.lt_of_lt_of_le ((bP6 ids C.m).2 b hb) (bP6 _ _).1
  | false=>
   rw[hle,cond_false] at hq
   exact⟨[],_,.inr ⟨rfl,rfl⟩,fun b hb=>(by cases hb),hq⟩
 have hfn:=an4 hs.sd.gl hs.fr f
 rw[hd] at hfn
 obtain⟨vf,vc,hv,hvf,hvc1,hvc2⟩:∃vf vc,a.eval f=.func (.func g) vf vc∧vf= #[]∧caps.length=vc.size∧∀(i:Nat) (d:D) (v:Value),caps[i]? =some d→vc[i]? =some v→i7 w Im φ d v:=by
  generalize a.eval f=v at hfn
  cases hfn with
  | fn _ _ _ vf vc e1 e2 e3 e4=>exact⟨vf,vc,rfl,by simpa using e1.symm,e2,e4⟩
 subst hvf
 --the loop's H2
 obtain⟨rec,hrec⟩:∃rec:FuncId→LoopState→Option Code→Loop,rec=fun fn st pe=>{ state:=st,pending:=pe,fn,tmps:=a.tmps,params:=ps,assign:=asg,body,defers:=w.heap.size }:=⟨_,rfl⟩
 obtain⟨W1,hW1⟩:∃W1:FuncId→World,W1=fun fn=>(w.alloc (.deferred (some []))).alloc (.loop (rec fn .ready none)):=⟨_,rfl⟩
 obtain⟨p1,p2⟩:=hs.inv.pick hnd rfl h3
 refine wpIn_rangeFunc ?_
 intro fn _
 have hsz1:(W1 fn).heap.size=w.heap.size+2:=by rw[hW1];simp
 have hold:∀c,c<w.heap.size→(W1 fn).heap[c]? =w.heap[c]? :=fun c hc=>by
  rw[hW1]
  exact(Below.heap_alloc _ _ _ (by simp;omega)).trans (Below.heap_alloc _ _ _ hc)
 have hL1:(W1 fn).heap[w.heap.size+1]? =some (.loop (rec fn .ready none)):=by
  rw[hW1];have:=World.alloc_heap_new (w.alloc (.deferred (some []))) (.loop (rec fn .ready none));rwa [World.size_alloc] at this
 have hK1:(W1 fn).heap[w.heap.size]? =some (.deferred (some [])):=by
  rw[hW1];exact(Below.heap_alloc _ _ _ (by simp)).trans (World.alloc_heap_new w _)
 have hio1:Io w (W1 fn):=by rw[hW1];exact⟨rfl,rfl,rfl⟩
 refine⟨w.heap.size+1,[mark w.heap.size],W1 fn,{ target:=.fn (.func g) vc,args:= #[.func (.yield (w.heap.size+1)) #[] #[]] },W1 fn,g,
  #[.func (.yield (w.heap.size+1)) #[] #[]]++vc,W1 fn,?_,?_,fun f' _=>trivial,?_,fun h=>absurd h (by simp[Fence.wide]),callsIn_wide.2 ?_⟩
 ·rw[hW1,hrec];exact run_enterLoop_outer _ _ _ _ _
 ·simp only[resolve,hv]
  simp[Deferred.ofValue]
  rfl
 ·simp[invoke,bp6 hcal]
 have hinv0:=hs.inv.sel (fun i=> !(ids.contains i))
 have hown0:∀c,m8 φ (u9 (fun i=> !(ids.contains i)) 0 σ) c→m8 φ σ c:=fun c ⟨b1,B1,l1,e1,e2,e3⟩=>⟨b1,B1,l1,e1,(an5 e2).1,e3⟩
 have hap:=hs.inv.apart h3
 have hrem0:rem lids σR=u9 (fun i=> !(ids.contains i)) 0 σ:=by
  rcases hlid with⟨rfl,rfl⟩ | ⟨rfl,rfl⟩
  ·rfl
  ·exact co5 _
 generalize hσr:u9 (fun i=> !(ids.contains i)) 0 σ=σr at hrem0 hinv0 hown0 hap
 have hGl:∀c,m8 (G2 φ ids) sub c→c<w.heap.size:=fun c hc=>p1.own_lt hc
 obtain⟨RR,hRR⟩:∃RR:List D→i4→(D→i4→Prop)→Prop,RR=(fun y s q=>i6 E (C.round mm) (QW q) (bg4 E C.fn.ntmps ps asg body fr1 y s)):=⟨_,rfl⟩
 obtain⟨AA,hAA⟩:∃AA:Nat→i4→Prop,AA=(fun n s=>i6 E C Q (bl5 t fr1 n s)):=⟨_,rfl⟩
 obtain⟨BB,hBB⟩:∃BB:i4→Prop,BB=(fun s=>x7 s lids=x7 σR lids):=⟨_,rfl⟩
 have hrng:Rng BB RR AA Y σR:=by rw[hRR,hAA,hBB];exact hrng
 generalize hln:(bif lids.isEmpty then [] else sub:i4)=ln at hseq
 generalize hφ0:(G2 φ ids).take ln.length=φ0 at hseq
 have hsubl:sub.length=ids.length:=by rw[(J9 h3).1];simp[x7]
 have hnil:lids= []→ln= []∧φ0= []:=fun e=>by
  subst e
  have:ln= []:=hln.symm
  subst this
  exact⟨rfl,hφ0.symm⟩
 have hfull:lids≠ []→lids=ids∧σR=σ∧ln=sub∧φ0=G2 φ ids∧C6 (tr (M8 (au6 ids σR.length)) l8) sub=some (x7 σR ids):=fun e=>by
  rcases hlid with⟨e1,e2⟩ | ⟨e1,_⟩
  ·have e3:ln=sub:=by
    rw[←hln]
    cases lids with
    | nil=>exact absurd rfl e
    | cons x l=>rfl
   refine⟨e1,e2,e3,?_,?_⟩
   ·rw[←hφ0,e3,List.take_of_length_le (by simp[G2,hsubl])]
   ·rcases hback with h | h
    ·exact absurd h e
    ·rw[e1] at h;exact h
  ·exact absurd e1 e
 have hown0' :∀c,m8 φ0 ln c→m8 (G2 φ ids) sub c:=fun c hc=>by
  by_cases hl:lids= []
  ·obtain⟨e1,e2⟩:=hnil hl
   rw[e1,e2] at hc
   exact absurd hc (ap4 c)
  ·obtain⟨_,_,e1,e2,_⟩:=hfull hl
   rw[e1,e2] at hc;exact hc
 have fillF:∀{W:World}{I:Nat→Prop}{φ' :o8}{σf:i4},Inv W I φ' (rem lids σf)→Inv W I φ0 ln→(∀c,m8 φ' (rem lids σf) c→¬m8 φ0 ln c)→(∀b,b<mm→φ'[b]? =φ[b]?)→BB σf→
   Inv W I φ' σf∧∀c,m8 φ' σf c→m8 φ' (rem lids σf) c∨m8 φ0 ln c:=fun {W I φ' σf} g1 g2 g3 g4 g5=>by
  by_cases hl:lids= []
  ·rw[hl,co5] at g1 ⊢
   exact⟨g1,fun c hc=> .inl hc⟩
  ·obtain⟨e1,e2,e3,e4,e5⟩:=hfull hl
   rw[hBB] at g5
   simp only[e1,e3,e4] at g1 g2 g3 g5 ⊢
   refine g1.fill g2 g3 (fun b hb=>⟨by rw[hs.inv.len];exact hin b hb,g4 b (hmml b (by rw[e1];exact hb))⟩) e5 g5
 have splitF:∀{W:World}{I:Nat→Prop}{φ' :o8}{σf:i4},Inv W I φ' σf→(∀b,b<mm→φ'[b]? =φ[b]?)→BB σf→
   Inv W I φ0 ln∧(∀c,m8 φ' (rem lids σf) c→¬m8 φ0 ln c):=fun {W I φ' σf} g1 g4 g5=>by
  by_cases hl:lids= []
  ·obtain⟨e1,e2⟩:=hnil hl
   rw[e1,e2]
   exact⟨Inv.nil g1.im,fun c _=>ap4 c⟩
  ·obtain⟨e1,e2,e3,e4,e5⟩:=hfull hl
   rw[hBB] at g5
   simp only[e1,e3,e4] at g5 ⊢
   have e6:G2 φ' ids=G2 φ ids:=by
    unfold G2
    refine List.map_congr_left fun b hb=> ?_
    rw[au5,au5,g4 b (hmml b (by rw[e1];exact hb))]
   have h3' :C6 (tr (M8 fun b=>aB6 ids b 0) l8) (x7 σf ids)=some sub:=by rw[g5,e2];exact h3
   rw[←e6]
   exact⟨(g1.pick hnd rfl h3').1,g1.apart h3'⟩
 have hlenG:∀{W:World}{I:Nat→Prop}{φ' :o8}{σ' :i4},Tr mm w Im φ σ W I φ' σ' →mm≤φ'.length:=fun {W I φ' σ'} ht=>by
  have hl:=hs.inv.len
  rcases Nat.lt_or_ge φ'.length mm with hlt | hge
  ·exfalso
   have e1:=ht.pre φ'.length hlt
   rw[List.getElem?_eq_getElem (by omega:φ'.length<φ.length)] at e1
   simp at e1
  ·exact hge
 have hfrG:∀{W:World}{I:Nat→Prop}{φ' :o8}{σ' :i4},Tr mm w Im φ σ W I φ' σ' →∀t,i7 W I φ' (o5 fr1 t) (a.tmps.getD t undef):=fun {W I φ' σ'} ht t=>by
  have hren:∀d d' v,i7 w Im φ d v→tr (M8 (idH mm)) l8 d=some d' →i7 w Im φ' d' v:=fun d d' v h1 h2=>ak4 (fun _ h=>h) (fun b c l e1 e2=>by
   simp only[idH,Bool.cond_eq_ite] at e1
   split at e1
   ·rename_i hb
    obtain rfl:=Option.some.inj e1
    rw[ht.pre b (Nat.lt_of_succ_le (Nat.le_of_ble_eq_true hb))];exact e2
   ·cases e1) l8 d d' v h1 h2
  have:i7 w Im φ' (o5 fr1 t) (a.tmps.getD t undef):=by
   rcases aT9 hfr1 t with⟨g1,g2⟩ | g
   ·rw[g1];exact .undef _
   ·exact hren _ _ _ (hs.fr t) g
  exact this.mono ht.im (fun c hc=>ht.keeps hs.inv c hc) (l5.refl _)
 --the partner
 have hpart:br2 E.P (w.heap.size+1) (JL (rec fn) mm (w.heap.size+1) w.heap.size w Im φ σ lids BB RR AA) w.heap.size (m8 (G2 φ ids) sub) φ0 ln:=by
  refine⟨fun Y W I X W' I' hJ hx hst=> ?_,fun y Y W I X vs hJ hx hIs hy hI0 hX0=> ?_⟩
  ·obtain⟨φ',σf,σ',hrm,hBf,j1,j2,j3,⟨j4,j5,j6,j7⟩,j8,j9⟩:=hJ
   have hsame:∀c,X c→W'.heap[c]? =W.heap[c]? :=fun c hc=>hst.same c (hx.lt c hc) (.inl hc)
   have hXl:X (w.heap.size+1):=(j8 _).2 (.inr (.inl rfl))
   have hXb:X w.heap.size:=(j8 _).2 (.inr (.inr rfl))
   refine⟨φ',σf,σ',hrm,hBf,⟨⟨Nat.le_trans j1.ext.size hst.size,fun c hc ho=> ?_,j1.ext.io.trans hst.io⟩,j1.own,j1.pre,fun c hc=>hst.im c (j1.im c hc),fun c hc=> ?_⟩,
    ⟨j2.len,fun b B l e1 e2=>(j2.blk b B l e1 e2).of_heap (fun hp=>hsame _ ((j8 _).2 (.inl ⟨b,B,l,e2,e1,rfl,hp⟩))) hst.size hst.im (fun c hc=>hst.same c (j2.im c hc) (.inr (.inl hc))) (l5.refl _),j2.inj,
     fun c hc ho=>hst.imX c hc ((j8 c).2 (.inl ho)),hst.imS⟩,
    by rw[hsame _ hXb];exact j3,⟨fun h=>hst.imX _ h hXl,fun h=>hst.imX _ h hXb,j6,j7⟩,j8,?_⟩
   ·rw[hst.same c (Nat.lt_of_lt_of_le hc j1.ext.size) (.inr (.inr ⟨hc,fun h=>ho (p2 c h)⟩))]
    exact j1.ext.same c hc ho
   ·rcases hst.imN c hc with h | h | h
    ·exact j1.imN c h
    ·exact .inr (.inl (p2 c h))
    ·exact .inr (.inr h)
   ·cases Y with
    | some Y=>exact⟨by rw[hsame _ hXl];exact j9.1,j9.2⟩
    | none=>obtain⟨n,g1,g2,g3⟩:=j9;exact⟨n,g1,by rw[hsame _ hXl];exact g2,g3⟩
  ·obtain⟨φ',σf,σ',hrm,hBf,j1,j2,j3,⟨j4,j5,j6,j7⟩,j8,j9,hround⟩:=hJ
   subst hrm
   obtain⟨hF1,hF2⟩:=fillF j2 hI0 (fun c hc=>hX0 c ((j8 c).2 (.inl hc))) j1.pre hBf
   have j6' :¬m8 φ' σf (w.heap.size+1):=fun h=>(hF2 _ h).elim j6 fun h=>by have:=hGl _ (hown0' _ h);omega
   have j7' :¬m8 φ' σf w.heap.size:=fun h=>(hF2 _ h).elim j7 fun h=>by have:=hGl _ (hown0' _ h);omega
   have hlt:w.heap.size+1<W.heap.size:=(Array.getElem?_eq_some_iff.1 j9).1
   have hlt0:=hlt
   have hround:RR y σf fun d s=>BB s∧((d=.int .i64 0∧Rng BB RR AA Y s)∨∃n:Nat,n≠0∧d=.int .i64 (n:Int)∧AA n s):=hround
   generalize hQQ:(fun(d:D) (s:i4)=>BB s∧((d=.int .i64 0∧Rng BB RR AA Y s)∨∃n:Nat,n≠0∧d=.int .i64 (n:Int)∧AA n s))=QQ at hround
   rw[hRR] at hround
   simp only[bg4] at hround
   cases hyl:Nat.beq y.length ps.size with
   | false=>simp only[hyl,cond_false] at hround;exact hround.elim
   | true=>
    simp only[hyl,cond_true] at hround
    have hyl' :=Nat.eq_of_beq_eq_true hyl
    split at hround
    rotate_left
    ·exact hround.elim
    rename_i xa hsim
    have hyr:=run_yield (P:=E.P) (args:=vs) j9 (by have:=hy.1;rw[hrec];simp only[Array.length_toList] at this;show vs.size=ps.size;omega)
    refine⟨_,_,_,_,hyr,?_⟩
    have hrb2:(rec fn .ready none).assign=asg∧(rec fn .ready none).body=body∧(rec fn .ready none).params=ps∧(rec fn .ready none).tmps=a.tmps∧(rec fn .ready none).state=.ready:=by rw[hrec];exact⟨rfl,rfl,rfl,rfl,rfl⟩
    obtain⟨q1,q2,q3,q4,q5⟩:=hrb2
    rw[q1,q2,q3,q4]
    have hfr0:=hfrG j1
    have hyv:E3 W I φ' y vs.toList:=⟨hy.1,fun i d v e1 e2=>(hy.2 i d v e1 e2).mono (fun _ h=>h) (fun _ _=>rfl) (l5.nil _)⟩
    obtain⟨s1,s2⟩:=bT6 ps.toList y vs.toList fr1 a.tmps C.fn.ntmps hps hs.sz hyv hfr0
    have hfold:(Array.foldl (fun tmps (x:Nat×Value)=>tmps.setIfInBounds x.1 x.2) a.tmps (ps.zip vs))=(ps.toList.zip vs.toList).foldl (fun t (x:Nat×Value)=>t.setIfInBounds x.1 x.2) a.tmps:=by
     rw[←Array.toList_zip,Array.foldl_toList]
    refine roundIn_of_wpIn (n:=0) trivial ?_
    refine bP0 (E:=E) (F:=Fence.wide.inRound (w.heap.size+1)) (.inr ⟨_,rfl⟩) _ W φ' σf _ xa ⟨_,[]⟩ _ (hs.sd.gl.mono j1.im (j1.keeps hs.inv)) hF1 hsim (fun t=> ?_) ?_ fun a' W1 φ1 k1 k2 k3 kn=> ?_
    ·show i7 W I φ' _ (Array.getD (Array.foldl _ a.tmps (ps.zip vs)) t undef)
     rw[hfold];exact s1 t
    ·show Array.size (Array.foldl _ a.tmps (ps.zip vs))=_
     rw[hfold];exact s2
    --the round begins
    have hl1:W1.heap[w.heap.size+1]? =some (.loop (rec fn .ready none)):=by rw[kn.tr.ext.same _ hlt0 j6'];exact j9
    refine⟨_,run_beginRound hl1 q5,?_⟩
    have hlt1:w.heap.size+1<W1.heap.size:=(Array.getElem?_eq_some_iff.1 hl1).1
    generalize hWB:W1.putObj (w.heap.size+1) (.loop { rec fn .ready none with state:=.busy })=WB
    have hsB:WB.heap.size=W1.heap.size:=by rw[←hWB];simp
    have hoB:∀c,c≠w.heap.size+1→WB.heap[c]? =W1.heap[c]? :=fun c hc=>by rw[←hWB];exact World.putObj_heap_other hc
    have hlB:WB.heap[w.heap.size+1]? =some (.loop { rec fn .ready none with state:=.busy }):=by rw[←hWB];exact World.putObj_heap_same hlt1
    have hioB:Io W1 WB:=by rw[←hWB];exact⟨rfl,rfl,rfl⟩
    generalize hW2:W.putObj (w.heap.size+1) (.loop { rec fn .ready none with state:=.busy })=W2
    have hs2:W2.heap.size=W.heap.size:=by rw[←hW2];simp
    have ho2:∀c,c≠w.heap.size+1→W2.heap[c]? =W.heap[c]? :=fun c hc=>by rw[←hW2];exact World.putObj_heap_other hc
    have hl2:W2.heap[w.heap.size+1]? =some (.loop { rec fn .ready none with state:=.busy }):=by rw[←hW2];exact World.putObj_heap_same hlt
    have hio2:Io W W2:=by rw[←hW2];exact⟨rfl,rfl,rfl⟩
    have hne:∀c,(I c∨m8 φ' σf c)→c≠w.heap.size+1:=fun c hc e=>by subst e;exact hc.elim j4 j6'
    have hneB:∀c,(I c∨m8 φ1 xa.2 c)→c≠w.heap.size+1:=fun c hc e=>by
     rcases hc with hc | hc
     ·exact hne c (.inl hc) e
     ·rcases kn.tr.own c hc with h | h
      · exact hne c (.inr h) e
      · omega
    have hi2:Inv WB I φ1 xa.2:=kn.inv.ext (Nat.le_of_eq hsB.symm) fun c hc h=>hoB c (hneB c h)
    have hm2:mm≤φ1.length:=Nat.le_trans (hlenG j1) kn.len
    have tr0:Tr mm W2 I φ' σf WB I φ1 xa.2:=by
     refine⟨⟨by rw[hs2,hsB];exact kn.tr.ext.size,fun c hc ho=> ?_,Io.trans (b:=W) ⟨hio2.1.symm,hio2.2.1.symm,hio2.2.2.symm⟩ (kn.tr.ext.io.trans hioB)⟩,fun c hc=>by rw[hs2];exact kn.tr.own c hc,fun b hb=>kn.tr.pre b (Nat.lt_of_lt_of_le hb (hlenG j1)),fun _ h=>h,fun c hc=> .inl hc⟩
     by_cases hcl:c=w.heap.size+1
     ·rw[hcl,hlB,hl2]
     ·rw[hoB c hcl,ho2 c hcl];exact kn.tr.ext.same c (by omega) ho
    have hsr:ao6 E (C.round mm) WB.heap.size WB I φ1 xa.1 xa.2 a' :=⟨fun t=>(k1 t).mono (fun _ h=>h) (fun c hc=>hoB c (hneB c (.inl hc))) (l5.refl _),hi2,
     ⟨Nat.le_refl _,((hs.sd.gl.mono j1.im (j1.keeps hs.inv)).mono (fun _ h=>h) (kn.tr.keeps hF1)).mono (fun _ h=>h) (fun c hc=>hoB c (hneB c (.inl hc))),fun h=>(by cases h),[],by rw[k3];rfl,fun _=>rfl,List.nodup_nil,fun b hb=>by simp at hb⟩,k2,hm2⟩
    have hround:=hround (Fence.wide.inRound (w.heap.size+1)) 0 ⟨fun h=>(by cases h),fun _=>⟨_,rfl⟩⟩ _ a' WB I φ1 hsr (fun e a2 w2=>N5 E (C.round mm) WB.heap.size (QW QQ) WB I φ1 xa.2 e a2 w2) (fun e a2 w2 h=>h)
    refine wpIn_mono hround ?_
    intro e a3 w3 hd3
    have hd3' :N5 E (C.round mm) WB.heap.size (QW QQ) WB I φ1 xa.2 e a3 w3:=by cases e<;>exact hd3
    obtain⟨n,σ2',φ2',I3,d1,d2',d3',d4⟩:=hd3'.1 rfl
    obtain⟨d5,σ3,d6,d4⟩:=d4
    have hk2:mm≤φ2'.length:=by
     rcases Nat.lt_or_ge φ2'.length mm with hlt | hge
     ·exfalso
      have e1:=d2'.pre φ2'.length hlt
      rw[List.getElem?_eq_getElem (by omega:φ2'.length<φ1.length)] at e1
      simp at e1
     ·exact hge
    obtain⟨φ3,m1,m2,m3,d3,m5⟩:=d6 mm w3 I3 φ2' (fun _=> .int .i64 (n:Int)) hk2 d3' (fun t=>by simp only[o5,Bool.cond_eq_ite];split;exact .int _ _;exact .undef _)
    have d2:Tr mm W2 I φ' σf w3 I3 φ3 σ3:=tr0.trans (Tr.trans d2' m3)
    have m6:=m5 0
    simp only[o5,Nat.beq_refl,cond_true] at m6
    rw[←hQQ] at d4
    obtain⟨hB3,d4⟩:=d4
    have d4:((.int .i64 (n:Int):D)=.int .i64 0∧Rng BB RR AA Y σ3)∨∃n' :Nat,n' ≠0∧(.int .i64 (n:Int):D)=.int .i64 (n' :Int)∧AA n' σ3:=by
     rcases d4 with⟨rfl,k⟩ | ⟨n',k1,rfl,k2⟩
     ·generalize ((n:Nat):Int)=z at m6 ⊢
      cases m6;exact .inl ⟨rfl,k⟩
     ·generalize ((n:Nat):Int)=z at m6 ⊢
      cases m6;exact .inr ⟨n',k1,rfl,k2⟩
    have hl3:w3.heap[w.heap.size+1]? =some (.loop { rec fn .ready none with state:=.busy }):=by rw[d2.ext.same _ (by omega) j6'];exact hl2
    have hx3:=d2.imX (X:=fun c=>c=w.heap.size+1∨c=w.heap.size) (fun c hc=>by rcases hc with rfl | rfl;exact⟨by omega,j4,j6'⟩;exact⟨by omega,j5,j7'⟩)
    have hb3:w3.heap[w.heap.size]? =some (.deferred (some [])):=by rw[d2.ext.same _ (by omega) j7',ho2 _ (by omega)];exact j3
    --what comes of it
    have m9:∀(jump:Option Code) (b:Bool),jump.isNone=b→
      (match (if b=true then some Y else none:Option (List (List D))) with
       | some Y=>jump=none∧Rng BB RR AA Y σ3
       | none=>∃n,n≠0∧jump=some (bI5 n)∧AA n σ3)→
      ∃v w4,(Instr.endRound (w.heap.size+1) jump).run E.P w3=.ok v w4∧∃b Im' X',Ending.returned v=.returned (.bool b)∧JL (rec fn) mm (w.heap.size+1) w.heap.size w Im φ σ lids BB RR AA (if b=true then some Y else none) w4 Im' X' ∧bZ3 (fun c=>X c∨m8 φ0 ln c) W I w4 Im' X' ∧Inv w4 Im' φ0 ln∧(∀c,X' c→¬m8 φ0 ln c):=fun jump b hj hout=>by
     have hend:=run_endRound (P:=E.P) jump hl3
     generalize hW4:w3.putObj (w.heap.size+1) (.loop { { rec fn .ready none with state:=.busy } with state:=if jump.isNone then .ready else .done,pending:=jump })=W4 at hend
     have hs4:W4.heap.size=w3.heap.size:=by rw[←hW4];simp
     have ho4:∀c,c≠w.heap.size+1→W4.heap[c]? =w3.heap[c]? :=fun c hc=>by rw[←hW4];exact World.putObj_heap_other hc
     have hl4:W4.heap[w.heap.size+1]? =some (.loop (rec fn (if jump.isNone then .ready else .done) jump)):=by
      rw[←hW4]
      rw[World.putObj_heap_same (by have:=d2.ext.size;omega),hrec]
     have hio4:Io w3 W4:=by rw[←hW4];exact⟨rfl,rfl,rfl⟩
     have hne3:∀c,(I3 c∨m8 φ3 σ3 c)→c≠w.heap.size+1:=fun c hc e=>by
      have:=hx3 c (.inl e)
      exact hc.elim this.1 this.2
     have hsz3:W.heap.size≤W4.heap.size:=by rw[hs4,←hs2];exact d2.ext.size
     have hown3:∀c,m8 φ3 σ3 c→m8 φ' σf c∨W.heap.size≤c:=fun c hc=>by rw[←hs2];exact d2.own c hc
     have himN:∀c,I3 c→I c∨m8 φ' σf c∨W.heap.size≤c:=fun c hc=>by rw[←hs2];exact d2.imN c hc
     have hOwn:∀c,m8 φ' σf c→m8 φ σ c∨w.heap.size≤c:=fun c hc=>(hF2 c hc).elim (j1.own c) fun h=> .inl (p2 c (hown0' c h))
     have hsame4:∀c,c<W.heap.size→c≠w.heap.size+1→¬m8 φ' σf c→W4.heap[c]? =W.heap[c]? :=fun c hc hn ho=>by rw[ho4 c hn,d2.ext.same c (by omega) ho,ho2 c hn]
     have hi4:Inv W4 I3 φ3 σ3:=d3.ext (Nat.le_of_eq hs4.symm) fun c hc h=>ho4 c (hne3 c h)
     have hremO:∀c,m8 φ3 (rem lids σ3) c→m8 φ3 σ3 c:=fun c ⟨b1,B1,l1,e1,e2,e3⟩=>⟨b1,B1,l1,e1,(an5 e2).1,e3⟩
     have htr4:Tr mm w Im φ σ W4 I3 φ3 (rem lids σ3):=by
      refine⟨⟨Nat.le_trans j1.ext.size hsz3,fun c hc ho=> ?_,j1.ext.io.trans (hio2.trans (d2.ext.io.trans hio4))⟩,fun c hc=> ?_,fun b hb=>by rw[d2.pre b hb,j1.pre b hb],fun c hc=>d2.im c (j1.im c hc),fun c hc=> ?_⟩
      · rw[hsame4 c (Nat.lt_of_lt_of_le hc j1.ext.size) (by omega) (fun h=>(hOwn c h).elim ho (by omega))]
        exact j1.ext.same c hc ho
      · rcases hown3 c (hremO c hc) with h | h
        ·exact hOwn c h
        ·exact .inr (Nat.le_trans j1.ext.size h)
      · rcases himN c hc with h | h | h
        ·exact j1.imN c h
        ·exact(hOwn c h).elim (fun h=> .inr (.inl h)) (fun h=> .inr (.inr h))
        ·exact .inr (.inr (Nat.le_trans j1.ext.size h))
     obtain⟨hS1,hS2⟩:=splitF hi4 htr4.pre hB3
     refine⟨_,W4,hend,b,I3,fun c=>m8 φ3 (rem lids σ3) c∨c=w.heap.size+1∨c=w.heap.size,by rw[hj],⟨φ3,σ3,rem lids σ3,rfl,hB3,htr4,hi4.sel _,by rw[ho4 _ (by omega)];exact hb3,⟨(hx3 _ (.inl rfl)).1,(hx3 _ (.inr rfl)).1,fun h=>(hx3 _ (.inl rfl)).2 (hremO _ h),fun h=>(hx3 _ (.inr rfl)).2 (hremO _ h)⟩,fun c=>Iff.rfl,?_⟩,
      ⟨hsz3,fun c hc hX=>hsame4 c hc (fun e=>hX (.inl ((j8 c).2 (.inr (.inl e))))) (fun h=>hX ((hF2 c h).elim (fun h=> .inl ((j8 c).2 (.inl h))) .inr)),hio2.trans (d2.ext.io.trans hio4),d2.im,fun c hc=> ?_,hi4.im,fun c hc=> ?_,⟨fun c hc=> ?_,fun c hc=> ?_⟩⟩,hS1,fun c hc ho=> ?_⟩
     ·cases b with
      | true=>
        simp only[if_true] at hout ⊢
        obtain⟨rfl,hout⟩:=hout
        exact⟨hl4,hout⟩
      | false=>
        simp only[Bool.false_eq_true,if_false] at hout ⊢
        obtain⟨n,g1,rfl,g2⟩:=hout
        exact⟨n,g1,hl4,g2⟩
     ·rcases himN c hc with h | h | h
      · exact .inl h
      · exact .inr (.inl ((hF2 c h).elim (fun h=> .inl ((j8 c).2 (.inl h))) .inr))
      · exact .inr (.inr h)
     ·rcases hc with h | rfl | rfl
      · rcases hown3 c (hremO c h) with h | h
        ·exact .inl ((hF2 c h).elim (fun h=> .inl ((j8 c).2 (.inl h))) .inr)
        ·exact .inr h
      · exact .inl (.inl ((j8 _).2 (.inr (.inl rfl))))
      · exact .inl (.inl ((j8 _).2 (.inr (.inr rfl))))
     ·rcases hc with h | rfl | rfl
      · exact hi4.own_lt (hremO c h)
      · omega
      · omega
     ·rcases hc with h | rfl | rfl
      · exact fun hI=>hi4.sep c hI (hremO c h)
      · exact(hx3 _ (.inl rfl)).1
      · exact(hx3 _ (.inr rfl)).1
     ·rcases hc with h | rfl | rfl
      · exact hS2 c h ho
      · have:=hGl _ (hown0' _ ho);omega
      · have:=hGl _ (hown0' _ ho);omega
    rcases cl7 d1 with⟨rfl,rfl⟩ | ⟨hn,hn'⟩
    ·rcases d4 with⟨_,d4⟩ | ⟨n,k4,k5,_⟩
     ·exact m9 none true rfl ⟨rfl,d4⟩
     ·exfalso
      simp only[D.int.injEq,true_and] at k5
      omega
    ·have d5:AA n σ3:=by
      rcases d4 with⟨k5,_⟩ | ⟨n',k4,k5,k6⟩
      · exfalso
        simp only[D.int.injEq,true_and] at k5
        omega
      · simp only[D.int.injEq,true_and] at k5
        have:n=n' :=by omega
        rw[this];exact k6
     rcases hn' with⟨rfl,rfl⟩ | ⟨id,rfl,rfl⟩
     ·exact m9 (some .ret) false rfl ⟨1,hn,rfl,d5⟩
     ·exact m9 (some (.exit id)) false rfl ⟨id+2,hn,rfl,d5⟩
 have hJ0:JL (rec fn) mm (w.heap.size+1) w.heap.size w Im φ σ lids BB RR AA (some Y) (W1 fn) Im (fun c=>m8 φ σr c∨c=w.heap.size+1∨c=w.heap.size):=by
  have hIl:¬Im (w.heap.size+1):=fun h=>by have:=hs.inv.im _ h;omega
  have hIb:¬Im w.heap.size:=fun h=>by have:=hs.inv.im _ h;omega
  have hOl:¬m8 φ σr (w.heap.size+1):=fun h=>by have:=hinv0.own_lt h;omega
  have hOb:¬m8 φ σr w.heap.size:=fun h=>by have:=hinv0.own_lt h;omega
  exact⟨φ,σR,σr,hrem0.symm,by rw[hBB],⟨⟨by omega,fun c hc _=>hold c hc,hio1⟩,fun c hc=> .inl (hown0 c hc),fun _ _=>rfl,fun _ h=>h,fun _ h=> .inl h⟩,hinv0.ext (by omega) (fun c hc _=>hold c hc),hK1,⟨hIl,hIb,hOl,hOb⟩,fun c=>Iff.rfl,hL1,hrng⟩
 have hargs:E3 (W1 fn) Im (G2 φ ids) caps' vc.toList:=by
  have:=av0 h2 (vs:=vc.toList) (w:=w) (Im:=Im) (φ:=φ) ⟨by simpa using hvc1,fun i d v a b=>hvc2 i d v a (by simpa using b)⟩ (fun d d' v a b=>ak4 (fun _ h=>h) br4 l8 d d' v a b)
  exact⟨this.1,fun i d v a b=>(this.2 i d v a b).mono (fun _ h=>h) (fun c hc=>hold c (hs.inv.im c hc)) (l5.refl _)⟩
 refine(hseq (W1 fn) Im (G2 φ ids) vc (w.heap.size+1) _ w.heap.size (m8 (G2 φ ids) sub) (fun c=>m8 φ σr c∨c=w.heap.size+1∨c=w.heap.size) (hs.sd.gl.mono (fun _ h=>h) (fun c hc=>hold c (hs.inv.im c hc))) (p1.ext (by omega) fun c hc _=>hold c hc) hargs (hφ0▸hpart) (by omega) (fun _ h=>h)
  ⟨fun c hc=> ?_,fun c hc hI=> ?_⟩ (fun c hc hG=> ?_) hJ0).mono ?_
 ·rcases hc with h | rfl | rfl
  ·have:=hinv0.own_lt h;omega
  ·omega
  ·omega
 ·rcases hc with h | rfl | rfl
  ·exact hs.inv.sep c hI (hown0 c h)
  ·have:=hs.inv.im _ hI;omega
  ·have:=hs.inv.im _ hI;omega
 ·rcases hc with h | rfl | rfl
  ·exact hap c h hG
  ·have:=hGl _ hG;omega
  ·have:=hGl _ hG;omega
 rintro e w3 ⟨⟨v,rfl⟩,I3,X3,hend,hEI,hEX⟩
 rw[hφ0] at hEI hEX
 --v9 the iterator
 have after:∀(st:LoopState) (pe:Option Code) (φ' :o8) (σ' :i4),st≠.busy→w3.heap[w.heap.size+1]? =some (.loop (rec fn st pe))→Tr mm w Im φ σ w3 I3 φ' σ' →Inv w3 I3 φ' σ' →w3.heap[w.heap.size]? =some (.deferred (some []))→(¬I3 (w.heap.size+1)∧¬I3 w.heap.size∧¬m8 φ' σ' (w.heap.size+1)∧¬m8 φ' σ' w.heap.size)→
   ∃w4,(Instr.endLoop (w.heap.size+1)).run E.P w3=.ok pe w4∧∀td,i6 E C Q (.go ⟨td,fr1,σ'⟩)→sem Fence.wide nf E.P R td .normal { a with defers:= [mark w.heap.size]++a.defers } w4:=by
  intro st pe φ' σ' hst hl j1 j2 j3 ⟨j4,j5,j6,j7⟩
  have hlt:w.heap.size+1<w3.heap.size:=(Array.getElem?_eq_some_iff.1 hl).1
  have hrun:=run_endLoop (P:=E.P) hl (by rw[hrec];exact hst)
  have hpe:(rec fn st pe).pending=pe:=by rw[hrec]
  generalize hW4:w3.putObj (w.heap.size+1) (.loop { rec fn st pe with state:=.exhausted })=W4 at hrun
  rw[hpe] at hrun
  refine⟨W4,hrun,fun td htd=> ?_⟩
  have hs4:W4.heap.size=w3.heap.size:=by rw[←hW4];simp
  have ho4:∀c,c≠w.heap.size+1→W4.heap[c]? =w3.heap[c]? :=fun c hc=>by rw[←hW4];exact World.putObj_heap_other hc
  have hio4:Io w3 W4:=by rw[←hW4];exact⟨rfl,rfl,rfl⟩
  have hne:∀c,(I3 c∨m8 φ' σ' c)→c≠w.heap.size+1:=fun c hc e=>by subst e;exact hc.elim j4 j6
  have hi4:Inv W4 I3 φ' σ' :=j2.ext (Nat.le_of_eq hs4.symm) fun c hc h=>ho4 c (hne c h)
  have ht4:Tr mm w Im φ σ W4 I3 φ' σ' :=⟨⟨by rw[hs4];exact j1.ext.size,fun c hc ho=>by rw[ho4 c (by omega)];exact j1.ext.same c hc ho,j1.ext.io.trans hio4⟩,j1.own,j1.pre,j1.im,j1.imN⟩
  have hsr:ao6 E C lo W4 I3 φ' fr1 σ' { a with defers:= [mark w.heap.size]++a.defers }:=by
   refine⟨hfrG ht4,hi4,⟨Nat.le_trans hs.sd.low ht4.ext.size,hs.sd.gl.mono ht4.im (ht4.keeps hs.inv),fun h=>(by rw[hit] at h;cases h),?_⟩,hs.sz,Nat.le_trans hCm (hlenG ht4)⟩
   obtain⟨Ds,hD⟩:=hs.sd.mks
   have hD4:=hD.tr ht4
   refine⟨w.heap.size::Ds,by rw[hD.eq];rfl,fun h=>(by rw[hit] at h;cases h),List.nodup_cons.2 ⟨fun h=> ?_,hD.nodup⟩,fun b hb=> ?_⟩
   ·have:=(hD.ok _ h).2.1;omega
   ·rcases List.mem_cons.1 hb with rfl | hb
    ·exact⟨hs.sd.low,by omega,by rw[ho4 _ (by omega)];exact j3,j5,j7⟩
    ·exact hD4.ok b hb
  exact htd Fence.wide nf hF lo _ W4 I3 φ' hsr R fun e a2 w2 hd=>hR e a2 w2 (N5.of_tr (ht4.le hCm) hd)
 --the lent blocks are back
 have whole:∀{φ' :o8}{σf:i4},BB σf→Tr mm w Im φ σ w3 I3 φ' (rem lids σf)→Inv w3 I3 φ' (rem lids σf)→(¬m8 φ' (rem lids σf) (w.heap.size+1)∧¬m8 φ' (rem lids σf) w.heap.size)→(∀c,X3 c↔(m8 φ' (rem lids σf) c∨c=w.heap.size+1∨c=w.heap.size))→
   Tr mm w Im φ σ w3 I3 φ' σf∧Inv w3 I3 φ' σf∧¬m8 φ' σf (w.heap.size+1)∧¬m8 φ' σf w.heap.size:=fun {φ' σf} hB j1 j2 j67 j8=>by
  obtain⟨hF1,hF2⟩:=fillF j2 hEI (fun c hc=>hEX c ((j8 c).2 (.inl hc))) j1.pre hB
  refine⟨⟨j1.ext,fun c hc=>(hF2 c hc).elim (j1.own c) fun h=> .inl (p2 c (hown0' c h)),j1.pre,j1.im,j1.imN⟩,hF1,fun h=>(hF2 _ h).elim j67.1 fun h=>by have:=hGl _ (hown0' _ h);omega,fun h=>(hF2 _ h).elim j67.2 fun h=>by have:=hGl _ (hown0' _ h);omega⟩
 rcases hend with⟨φ',σ',_,rfl,hB,j1,j2,j3,j4,j5,j6,j7⟩ | ⟨φ',σ',_,rfl,hB,j1,j2,j3,j4,j5,n,g1,g2,g3⟩
 ·obtain⟨o1,o2,o3,o4⟩:=whole hB j1 j2 ⟨j4.2.2.1,j4.2.2.2⟩ j5
  obtain⟨w4,k1,k2⟩:=after .ready none φ' σ' (by simp) j6 o1 o2 j3 ⟨j4.1,j4.2.1,o3,o4⟩
  refine⟨none,w4,k1,k2 t ?_⟩
  have:AA 0 σ' :=j7
  rw[hAA] at this
  exact this
 ·obtain⟨o1,o2,o3,o4⟩:=whole hB j1 j2 ⟨j4.2.2.1,j4.2.2.2⟩ j5
  obtain⟨w4,k1,k2⟩:=after .done (some (bI5 n)) φ' σ' (by simp) g2 o1 o2 j3 ⟨j4.1,j4.2.1,o3,o4⟩
  refine⟨some (bI5 n),w4,k1,?_⟩
  rw[hAA] at g3
  match n,g1,g3 with
  | 0,g1,_=>exact absurd rfl g1
  | 1,_,g3=>exact k2 (.code .ret::t) g3
  | n+2,_,g3=>exact k2 (.code (.exit n)::t) g3
end
section
variable {E : E7} {C : Cx} {Q : D → i4 → Prop} {w w' : World} {Im Im' : Nat → Prop} {φ φ' : o8} {σ σ' : i4}
theorem cN0 {F:Fence}{n:Nat}{P:Program}{R:Exit→Act→World→Prop}{t:List It}{ops:Array Oper}{a:Act} (h:sem F n P R (.ops ops.toList ops.toList::t) .normal a w) {id:Nat}:(Code.region id ops false).wpIn F n P (sem F n P R t) a w:=by
 refine wpIn_region_list ?_
 have h' :wpListIn F n P ops.toList.toArray (sem F n P R t) ops.toList a w:=h
 rwa [Array.toArray_toList] at h'
theorem U4 {F:Fence}{n:Nat}{P:Program}{R:Exit→Act→World→Prop}{id:Nat}:∀(t:List It) (a:Act) (w:World),aT5 id t=none→R (.exit id) a w→sem F n P R t (.exit id) a w
 | [],_,_,_,h=>h
 | .blk j::t,a,w,h,hr=>by
  simp only[aT5,Bool.cond_eq_ite] at h
  split at h
  ·cases h
  ·rename_i hj
   simp only[sem,Exit.inBlock]
   rw[if_neg (fun e=>hj (by rw[e];exact Nat.beq_refl j))]
   exact U4 t a w h hr
 | .sc::t,a,w,h,hr=>U4 t a w h hr
 | .code _::t,a,w,h,hr=>U4 t a w h hr
 | .lp _ _::t,a,w,h,hr=>U4 t a w h hr
 | .lpc _ _::t,a,w,h,hr=>U4 t a w h hr
 | .ops _ _::t,a,w,h,hr=>U4 t a w h hr
theorem cN4 (hm:E.P.follows .mixedOrders=true) (m:M) (hq:i6 E C Q (bB6 E C m)):cb7 E C Q m:=by
 obtain⟨td,fr,st⟩:=m
 intro F nf hF lo a w Im φ hs R hR
 simp only at hs hR
 have go:∀(td' :List It),cb7 E C Q ⟨td',fr,st⟩→sem F nf E.P R td' .normal a w:=fun td' h=>h F nf hF lo a w Im φ hs R hR
 have fin:∀(n:Nat) (e:Exit),bm8 e=some n→(e=.normal∨e=.ret)→i6 E C Q (bif C.rb then bL5 C n st else bk4 E C fr st)→R e a w:=fun n e he he' h=>by
  cases hrb:C.rb with
  | true=>rw[hrb] at h;exact hR e a w (cm5 hs hrb h he)
  | false=>rw[hrb] at h;exact hR e a w (cw6 hs hrb h e he')
 cases td with
 | nil=>exact fin 0 .normal rfl (.inl rfl) hq
 | cons it t=>
  cases it with
  | blk id=>exact go t hq
  | sc=>exact go t hq
  | lp c k=>
   simp only[bB6] at hq
   split at hq
   ·rename_i fr2 st2 hc
    have hkeep:∀t,i7 w Im φ (o5 (bc2 C.fn.ntmps k fr) t) (a.tmps.getD t undef):=fun t=>ci1 hs.fr t
    obtain⟨φ2,i1,i2,i3⟩:=aL7 hs.inv hs.m hc hkeep
    have:=hq F nf hF lo a w Im φ2 ⟨i3,i1,hs.sd.tr (Nat.le_refl _) hs.inv i2 i1,hs.sz,?_⟩ R (fun e a' w' hd=>hR e a' w' (N5.of_tr i2 hd))
    ·exact this
    ·rcases Nat.lt_or_ge φ2.length C.m with h | h
     ·exfalso
      have h1:=i2.pre φ2.length h
      have h2:=hs.m
      rw[List.getElem?_eq_getElem (by omega:φ2.length<φ.length)] at h1
      simp at h1
     ·exact h
   ·exact hq.elim
  | lpc c k=>exact cj1 (go _ hq)
  | ops all l=>
   cases l with
   | nil=>exact go t hq
   | cons o l=>
    refine cx1 hF hs (k:=fun fr st=> .go ⟨.ops all l::t,fr,st⟩) (fun C' fr' σ' w' Im' φ' a' n hs' hq' => ?_) hq
    obtain⟨Y,rfl⟩:=n.cx
    exact hq' F nf hF lo a' w' Im' φ' hs' R (fun e a2 w2 hd=>hR e a2 w2 (n.dn lo Q e a2 w2 hd))
  | code c=>
   cases c with
   | skip=>exact wpIn_skip (go t hq)
   | label l=>exact wpIn_label (go t hq)
   | scope c=>exact bj8 (go _ hq)
   | seq x y=>exact wpIn_seq (go _ hq)
   | block id c=>exact wpIn_block (go _ hq)
   | loop c=>exact cr8 (go _ hq)
   | cond c x y=>
    simp only[bB6] at hq
    split at hq
    ·rename_i b hb
     have hr:=an4 hs.sd.gl hs.fr c
     rw[hb] at hr
     exact wpIn_cond hr.bool_inv (go _ hq)
    ·exact hq.elim
   | exit id=>
    simp only[bB6] at hq
    split at hq
    ·rename_i t' ht
     exact wpIn_exit (aw0 _ _ _ _ ht (go t' hq))
    ·rename_i ht
     cases hrb:C.rb with
     | true=>
      rw[hrb] at hq
      exact wpIn_exit (U4 _ _ _ ht (hR _ a w (cm5 hs hrb hq rfl)))
     | false=>rw[hrb] at hq;exact hq.elim
   | ret=>exact wpIn_ret (aD4 _ _ _ (fin 1 .ret rfl (.inr rfl) hq))
   | rangeFunc f ps x y=>
    simp only[bB6] at hq
    cases hrb:C.rb with
    | true=>rw[hrb] at hq;exact hq.elim
    | false=>
     cases hit:C.it with
     | true=>rw[hrb,hit] at hq;exact hq.elim
     | false=>rw[hrb,hit] at hq;exact cX8 hF hs hrb hit hR hq
   | region id ops draw=>
    cases draw with
    | false=>exact cN0 (go _ hq)
    | true=>
     simp only[bB6] at hq
     split at hq
     ·rename_i y hy
      obtain⟨b1,b2⟩:=cE6 hy
      refine bR5 hF.ok hm hs (k:=fun fr st=> .go ⟨.ops ops.toList (ops.toList.drop y)::t,fr,st⟩) b1 b2 (fun fr' σ' w' Im' φ' a' n hs' hq' => ?_) hq
      have h:=hq' F nf hF lo a' w' Im' φ' hs' R (fun e a2 w2 hd=>hR e a2 w2 (N5.of_tr (n.le hs.m) hd))
      have h' :wpListIn F nf E.P ops.toList.toArray (sem F nf E.P R t) (ops.toList.drop y) a' w' :=h
      rwa [Array.toArray_toList] at h'
     ·refine bR5 hF.ok hm hs (k:=fun fr st=> .go ⟨t,fr,st⟩) (Nat.le_refl _) (fun i h1 h2=>by omega) (fun fr' σ' w' Im' φ' a' n hs' hq' => ?_) hq
      rw[List.drop_eq_nil_of_le (by simp)]
      exact hq' F nf hF lo a' w' Im' φ' hs' R (fun e a2 w2 hd=>hR e a2 w2 (N5.of_tr (n.le hs.m) hd))
   | _=>exact hq.elim
/-! ### rules -/
theorem o7 (hm:E.P.follows .mixedOrders=true):∀(n:Nat) (q:Qy),i6 E C Q (G6 E C n q)→i6 E C Q q
 | 0,_,h=>h
 | n+1,.go m,h=>cN4 hm m (o7 hm n _ h)
 | n+1,.need b q,h=>by
  cases b with
  | true=>exact⟨rfl,o7 hm n _ h⟩
  | false=>exact h.elim
 | n+1,.split b k,h=>show i6 E C Q (k b) from o7 hm n (k b) h
 | n+1,.row r k,h=>by
  cases r with
  | some x=>exact⟨x,rfl,o7 hm n _ h⟩
  | none=>exact h.elim
 | n+1,.rows r k,h=>show i6 E C Q (k r) from o7 hm n (k r) h
 | n+1,.any p k,h=>by
  cases p with
  | true=>exact h
  | false=>
   intro b hb
   cases b with
   | true=>exact absurd (hb rfl) (by simp)
   | false=>exact o7 hm n _ h
 | n+1,.str r k,h=>by
  cases r with
  | some x=>exact⟨x,rfl,o7 hm n _ h⟩
  | none=>exact h.elim
 | n+1,.call ..,h=>h
 | n+1,.callD ..,h=>h
 | n+1,.callS ..,h=>h
 | n+1,.callR ..,h=>h
 | n+1,.yld ..,h=>h
 | n+1,.rng ..,h=>h
 | n+1,.ret ..,h=>h
 | n+1,.bad,h=>h
theorem bk6 {P:Program}{fn:Func}{tmps:Array Value}{R:Ending→World→Prop} (w0:World) (Ds0:List Nat) (hfin:∀w'',bc5 Ds0 w0 w'' →∃v,(results fn tmps).run P w'' =.ok v w'' ∧R (.returned v) w''):
  ∀(Ds:List Nat) (w:World),Ds.Nodup→(∀b∈Ds,b∈Ds0∧w.heap[b]? =some (.deferred (some [])))→bc5 Ds0 w0 w→LeavesInM Fence.wide 0 P fn tmps R (Ds.map mark) .returning w
 | [],w,_,_,hs=>by
  obtain⟨v,h1,h2⟩:=hfin w hs
  exact⟨v,h1,h2⟩
 | b::Ds,w,hnd,hb,hs=>by
  obtain⟨hn,hnd'⟩:=List.nodup_cons.1 hnd
  obtain⟨h1,h2⟩:=hb b (by simp)
  refine⟨by simp,.inl ⟨b,_,rfl,run_takeDeferred h2,bk6 w0 Ds0 hfin Ds _ hnd' (fun c hc=>⟨(hb c (by simp[hc])).1,?_⟩) ⟨by simpa using hs.size,fun c hc=> ?_,hs.io.trans ⟨rfl,rfl,rfl⟩⟩⟩⟩
  ·rw[World.putObj_heap_other (fun e=>hn (by rw[←e];exact hc))]
   exact(hb c (by simp[hc])).2
  ·rw[World.putObj_heap_other (fun e=>hc (by rw[e];exact h1))]
   exact hs.same c hc
theorem N5.leaves {lo:Nat} (hrb:C.rb=false) (hit:C.it=false) {e:Exit}{a' :Act} (hd:N5 E C lo Q w Im φ σ e a' w') {R:Ending→World→Prop}
  (hR:∀Ds,(∀b∈Ds,lo≤b)→∀w'',bc5 Ds w' w'' →∀v d σ' φ' Im',Tr C.m w Im φ σ w' Im' φ' σ' →Inv w'' Im' φ' σ' →i7 w'' Im' φ' d v→Q d σ' →R (.returned v) w''):
  bodyPostM Fence.wide 0 E.P C.fn R e a' w' :=by
 obtain⟨g1,Ds,g3,g4,g5,g6,g7⟩:=hd.2 hrb
 have:=bk6 (P:=E.P) (fn:=C.fn) (tmps:=a'.tmps) (R:=R) w' Ds (fun w'' hs=>by
  obtain⟨v,d,s,p,I,k1,k2,k3,k4,k5,-⟩:=g7 w'' hs
  exact⟨v,k1,hR Ds (fun b hb=>(g6 b hb).1) w'' hs v d s p I (k2 hit) k3 k4 k5⟩) Ds w' g5 (fun b hb=>⟨hb,(g6 b hb).2⟩) (bc5.refl _ _)
 rw[←g3] at this
 rcases g1 with rfl | rfl<;>exact this
theorem N5.leaves_it {lo:Nat} (hrb:C.rb=false) (hit:C.it=true) {e:Exit}{a' :Act} (hd:N5 E C lo Q w Im φ σ e a' w') {R:Ending→World→Prop}
  (hR:∀v d σ' φ' Im',Inv w' Im' φ' σ' →Q d σ' →cT6 C w' Im' φ' σ' →R (.returned v) w'):bodyPostM Fence.wide 0 E.P C.fn R e a' w' :=by
 obtain⟨g1,Ds,g3,g4,g5,g6,g7⟩:=hd.2 hrb
 obtain rfl:=g4 hit
 obtain⟨v,d,s,p,I,k1,k2,k3,k4,k5,k6⟩:=g7 w' (bc5.refl _ _)
 have:LeavesInM Fence.wide 0 E.P C.fn a'.tmps R a'.defers .returning w' :=by
  rw[g3]
  exact⟨v,k1,hR v d s p I k3 k5 (k6 hit)⟩
 rcases g1 with rfl | rfl<;>exact this
theorem bT0 {fn:Func}{args:List D}{vs:Array Value} (hargs:E3 w Im φ args vs.toList):∀t,i7 w Im φ (o5 ((List.range args.length).zip args) t) ((vs++Array.replicate (fn.ntmps-vs.size) undef).getD t undef):=by
 have hlen:vs.size=args.length:=by have:=hargs.1;simpa using this.symm
 intro t
 have key:∀(l:List D) (k:Nat),(∀(i:Nat) (d:D),l[i]? =some d→i7 w Im φ d ((vs++Array.replicate (fn.ntmps-vs.size) undef).getD (k+i) undef))→i7 w Im φ (o5 ((List.range' k l.length).zip l) t) ((vs++Array.replicate (fn.ntmps-vs.size) undef).getD t undef):=by
  intro l
  induction l with
  | nil=>intro k _;simp[o5];exact .undef _
  | cons d l ih=>
   intro k hk
   simp only[List.length_cons,List.range'_succ,List.zip_cons_cons,o5,Bool.cond_eq_ite]
   split
   ·rename_i he
    have:=Nat.eq_of_beq_eq_true he
    subst this
    simpa using hk 0 d rfl
   ·exact ih (k+1) (fun i d' hd=>by have:=hk (i+1) d' (by simpa using hd);rwa [show k+(i+1)=k+1+i by omega] at this)
 rw[List.range_eq_range']
 refine key args 0 (fun i d hd=> ?_)
 have hlt:=(List.getElem?_eq_some_iff.1 hd).1
 rw[Nat.zero_add]
 have hv:vs.toList[i]? =some (vs[i]'(by omega)):=by simp
 have:=hargs.2 i d _ hd hv
 have e:(vs++Array.replicate (fn.ntmps-vs.size) undef).getD i undef=vs[i]'(by omega):=by
  simp[Array.getElem?_append_left (show i<vs.size by omega),show i<vs.size by omega]
 rw[e];exact this
theorem bQ7 {fn:Func}{args:List D}{σ:i4}{m:M} (hst:be5 fn args σ=some m):∃c,fn.body=some c∧args.length≤fn.ntmps∧m=⟨[.code c],(List.range args.length).zip args,σ⟩:=by
 unfold be5 at hst
 cases hb:fn.body with
 | none=>simp[hb] at hst
 | some c=>
  simp only[hb,Bool.cond_eq_ite] at hst
  split at hst
  ·rename_i hle
   exact⟨c,rfl,Nat.le_of_ble_eq_true hle,(Option.some.inj hst).symm⟩
  ·cases hst
theorem cI6 {f:FuncId}{fn:Func}{args:List D}{σ:i4}{m:M} (hf:E.P.funcs[f]? =some fn) (hst:be5 fn args σ=some m) (h:i6 E (.of fn (E.pol f).keep σ.length) Q (.go m)):l4 E f args σ Q:=by
 obtain⟨c,hb,hle,rfl⟩:=bQ7 hst
 intro w Im φ vs hgl hi hargs
 have hlen:vs.size=args.length:=by have:=hargs.1;simpa using this.symm
 refine callsIn_wide.1 (callsIn_of_wp_marks (n:=0) hf hb trivial ?_)
 have:=h Fence.wide 0 ⟨fun _=>rfl,fun h=>by cases h⟩ w.heap.size ⟨vs++Array.replicate (fn.ntmps-vs.size) undef,[]⟩ w Im φ
  ⟨bT0 hargs,hi,⟨Nat.le_refl _,hgl,fun h=>(by cases h),[],rfl,fun _=>rfl,List.nodup_nil,fun b hb=>by simp at hb⟩,by simp[Cx.of];omega,by simp[hi.len,Cx.of]⟩
  (bodyPostM Fence.wide 0 E.P fn fun e w' =>∃v d σ' φ' Im',e=.returned v∧Tr σ.length w Im φ σ w' Im' φ' σ' ∧Inv w' Im' φ' σ' ∧i7 w' Im' φ' d v∧Q d σ')
  (fun e a' w' hd=>hd.leaves rfl rfl fun Ds hlo w'' hs v d s p I h1 h2 h3 h4=>by
   refine⟨v,d,s,p,I,rfl,⟨⟨by rw[hs.size];exact h1.ext.size,fun c hc ho=> ?_,h1.ext.io.trans hs.io⟩,fun c hc=>h1.own c hc,h1.pre,h1.im,h1.imN⟩,h2,h3,h4⟩
   rw[hs.same c fun hm=>by have:=hlo c hm;omega]
   exact h1.ext.same c hc ho)
 exact wpIn_mono (Q:=sem Fence.wide 0 E.P _ []) this (fun e a w hh=>by cases e<;>exact hh)
theorem cw5 {f:FuncId}{fn:Func}{caps:List D}{σ ln:i4}{Y:List (List D)}{m:Nat→M} (hf:E.P.funcs[f]? =some fn) (hst:∀l,be5 fn (.yld l::caps) σ=some (m l)) (hln:U6 ln σ) (hcl:ba7 ln)
  (h:∀l φ0 J,i6 E (.seq fn σ.length ln l φ0 J (some Y)) (fun _ s=>U6 ln s) (.go (m l))):av1 E f caps σ ln Y:=by
 intro w Im φ vs l J n0 G X hgl hi hargs hp hn0 hG hx hd hJ
 obtain⟨c,hb,hle,hmm⟩:=bQ7 (hst l)
 obtain⟨us,hus⟩:∃us:Array Value,us= #[Value.func (.yield l) #[] #[]]++vs:=⟨_,rfl⟩
 rw[←hus]
 have hlnl:ln.length≤σ.length:=by
  have:=congrArg List.length hln
  rw[List.length_take] at this
  omega
 have hp0:l5 (φ.take ln.length) φ:=fun b l hb=>by
  rw[List.getElem?_take] at hb
  split at hb
  ·exact hb
  ·cases hb
 have hpl:(φ.take ln.length).length=ln.length:=by rw[List.length_take,hi.len];omega
 have hargs' :E3 w Im φ (.yld l::caps) us.toList:=by
  rw[hus]
  refine⟨by have:=hargs.1;simp at this ⊢;omega,fun i d v a b=> ?_⟩
  cases i with
  | zero=>simp at a b;subst a;subst b;exact .yld l
  | succ i=>exact hargs.2 i d v (by simpa using a) (by simpa[Array.getElem?_append] using b)
 have hlen:us.size=(D.yld l::caps).length:=by have:=hargs'.1;simpa using this.symm
 refine callsIn_wide.1 (callsIn_of_wp_marks (n:=0) hf hb trivial ?_)
 have h' :=h l (φ.take ln.length) J
 rw[hmm] at h'
 have:=h' Fence.wide 0 ⟨fun _=>rfl,fun h=>by cases h⟩ w.heap.size ⟨us++Array.replicate (fn.ntmps-us.size) undef,[]⟩ w Im φ
  ⟨bT0 hargs',hi,⟨Nat.le_refl _,hgl,fun _=>⟨⟨hp0,hpl,by show(φ.take ln.length).length≤σ.length;rw[hpl];exact hlnl,hcl⟩,n0,G,X,hp,hn0,fun c hc=> .inl (hG c hc),hx,hd,hJ⟩,[],rfl,fun _=>rfl,List.nodup_nil,fun b hb=>by simp at hb⟩,by simp only[Array.size_append,Array.size_replicate,hlen,Cx.seq];omega,by simp[hi.len,Cx.seq]⟩
  (bodyPostM Fence.wide 0 E.P fn fun e w' =>(∃v,e=.returned v)∧∃Im' X',(J (some []) w' Im' X' ∨J none w' Im' X')∧Inv w' Im' (φ.take ln.length) ln∧(∀c,X' c→¬m8 (φ.take ln.length) ln c))
  (fun e a' w' hd=>hd.leaves_it rfl rfl fun v d s p I hi' hq hend=>⟨⟨v,rfl⟩,by
   obtain⟨⟨e1,e2,e3⟩,X',hj,hx'⟩:=hend
   obtain⟨f1,f2⟩:=hi'.first hq e1 e2 e3
   exact⟨I,X',hj,f1,fun c hc ho=>hx' c hc (f2 c ho)⟩⟩)
 exact wpIn_mono (Q:=sem Fence.wide 0 E.P _ []) this (fun e a w hh=>by cases e<;>exact hh)
/-! A question is known by what it asks; what is v9 it is said by functions, so that no text of it is needed. -/
def Qy.needB:Qy→Option Bool | .need b _=>some b | _=>none
def Qy.needK:Qy→Qy | .need _ q=>q | _=> .bad
def Qy.splitB:Qy→Option Bool | .split b _=>some b | _=>none
def Qy.splitK:Qy→Bool→Qy | .split _ k=>k | _=>fun _=> .bad
def Qy.rowR:Qy→Option (Option (List D)) | .row r _=>some r | _=>none
def Qy.rowK:Qy→List D→Qy | .row _ k=>k | _=>fun _=> .bad
def Qy.rowsR:Qy→Option (List (List D)) | .rows r _=>some r | _=>none
def Qy.rowsK:Qy→List (List D)→Qy | .rows _ k=>k | _=>fun _=> .bad
def Qy.callK:Qy→D→i4→Qy | .call _ _ _ k=>k | .callS _ _ _ k=>k | _=>fun _ _=> .bad
def Qy.callRK:Qy→D→i4→Qy | .callR _ _ _ _ bk k,d,s=>(match bk d s with | some x=>k x.1 x.2 | none=> .bad) | _,_,_=> .bad
def Qy.callRT:Qy→D→i4→Option i4 | .callR _ _ _ σ bk _,d,s=>(bk d s).map fun x=>x.2.take σ.length | _,_,_=>none
def Qy.callRS:Qy→i4 | .callR _ _ _ σ _ _=>σ | _=> []
def Qy.callDK:Qy→D→Qy | .callD _ _ k=>k | _=>fun _=> .bad
def Qy.yldA:Qy→Option (Nat×List D×i4) | .yld l y s _=>some (l,y,s) | _=>none
def Qy.yldK:Qy→Bool→Qy | .yld _ _ _ k=>k | _=>fun _=> .bad
def Qy.rngA:Qy→Option (Nat×FuncId×List D×i4×i4×List Nat) | .rng m g caps sub σ ids _ _=>some (m,g,caps,sub,σ,ids) | _=>none
def Qy.rngR:Qy→List D→i4→Qy | .rng _ _ _ _ _ _ r _=>r | _=>fun _ _=> .bad
def Qy.rngK:Qy→Nat→i4→Qy | .rng _ _ _ _ _ _ _ a=>a | _=>fun _ _=> .bad
def Qy.retR:Qy→Option (D×i4) | .ret d s=>some (d,s) | _=>none
theorem cA1 {q:Qy} (b:Bool) (h:q.needB=some b) (hb:b=true) (hk:i6 E C Q q.needK):i6 E C Q q:=by
 cases q<;>simp[Qy.needB] at h
 subst h
 exact⟨hb,hk⟩
theorem cN2 {q:Qy} (b:Bool) (h:q.splitB=some b) (ht:b=true→i6 E C Q (q.splitK true)) (hf:b=false→i6 E C Q (q.splitK false)):i6 E C Q q:=by
 cases q<;>simp[Qy.splitB] at h
 subst h
 rename_i b k
 cases b
 ·exact hf rfl
 ·exact ht rfl
theorem bZ8 {q:Qy} (r:Option (List D)) (x:List D) (h:q.rowR=some r) (hr:r=some x) (hk:i6 E C Q (q.rowK x)):i6 E C Q q:=by
 cases q<;>simp[Qy.rowR] at h
 subst h
 exact⟨x,hr,hk⟩
def Qy.anyP:Qy→Option Bool | .any p _=>some p | _=>none
def Qy.anyK:Qy→Bool→Qy | .any _ k=>k | _=>fun _=> .bad
theorem cJ8 {q:Qy} (p:Bool) (h:q.anyP=some p) (hf:i6 E C Q (q.anyK false)) (ht:p=true→i6 E C Q (q.anyK true)):i6 E C Q q:=by
 cases q with
 | any p' k=>
  obtain rfl:p' =p:=Option.some.inj h
  intro b hb
  cases b with
  | false=>exact hf
  | true=>exact ht (hb rfl)
 | _=>cases h
theorem cu1 {q:Qy} (r x:List (List D)) (h:q.rowsR=some r) (hr:r=x) (hk:i6 E C Q (q.rowsK x)):i6 E C Q q:=by
 subst hr
 cases q with
 | rows r' k=>obtain rfl:r' =r:=Option.some.inj h;exact hk
 | _=>cases h
theorem cL2 {q:Qy} (d:D) (s:i4) (h:q.retR=some (d,s)) (hf:C.fin) (hq:Q d s):i6 E C Q q:=by
 cases q<;>simp[Qy.retR] at h
 obtain⟨rfl,rfl⟩:=h
 exact⟨hf,hq⟩
theorem ch5 {q q' :Qy} (h:q=q') (hq:i6 E C Q q'):i6 E C Q q:=h▸hq
/-! ### closed runs -/
end
/-! ### weaker data: nil slices are slices of nothing -/
def Wk (d d' :D):Prop:=∀(w:World) (Im:Nat→Prop) (φ:o8) (v:Value),i7 w Im φ d v→i7 w Im φ d' v
def aR2 (f:List (Option Nat)→D→Option (List (Option Nat)×D)):List (Option Nat)→List D→Option (List (Option Nat)×List D)
 | ns,[]=>some (ns,[])
 | ns,d::r=>match f ns d with
  | some x=>(match aR2 f x.1 r with | some y=>some (y.1,x.2::y.2) | none=>none)
  | none=>none
def aJ3:Nat→List (Option Nat)→D→Option (List (Option Nat)×D)
 | 0,ns,d=>some (ns,d)
 | n+1,ns,d=>match d with
  | .sl true z rows=>(match ns with
   | some sz::r=>some (r,.sl false sz rows)
   | none::r=>some (r,.sl true z rows)
   | []=>some ([],.sl true z rows))
  | .agg cs=>(match aR2 (aJ3 n) ns cs with | some x=>some (x.1,.agg x.2) | none=>none)
  | .tup cs=>(match aR2 (aJ3 n) ns cs with | some x=>some (x.1,.tup x.2) | none=>none)
  | d=>some (ns,d)
theorem aU8 {f:List (Option Nat)→D→Option (List (Option Nat)×D)} (hf:∀ns d x,f ns d=some x→Wk d x.2):∀(ns:List (Option Nat)) (l:List D) (y:List (Option Nat)×List D),aR2 f ns l=some y→
  l.length=y.2.length∧∀(i:Nat) (d d' :D),l[i]? =some d→y.2[i]? =some d' →Wk d d'
 | ns,[],y,h=>by
  simp only[aR2,Option.some.injEq] at h
  subst h
  exact⟨rfl,fun i d d' h=>by simp at h⟩
 | ns,d::r,y,h=>by
  simp only[aR2] at h
  split at h
  ·rename_i x hx
   split at h
   ·rename_i z hz
    obtain rfl:=Option.some.inj h
    obtain⟨h1,h2⟩:=aU8 hf _ _ _ hz
    refine⟨by simp[h1],fun i d1 d2 a b=> ?_⟩
    cases i with
    | zero=>
     simp only[List.getElem?_cons_zero,Option.some.injEq] at a b
     subst a;subst b
     exact hf _ _ _ hx
    | succ i=>exact h2 i d1 d2 (by simpa using a) (by simpa using b)
   ·cases h
  ·cases h
theorem br6:∀(n:Nat) (ns:List (Option Nat)) (d:D) (x:List (Option Nat)×D),aJ3 n ns d=some x→Wk d x.2
 | 0,ns,d,x,h=>by simp only[aJ3,Option.some.injEq] at h;subst h;exact fun _ _ _ _ h=>h
 | n+1,ns,d,x,h=>by
  have agg:∀(cs:List D) (y:List (Option Nat)×List D),aR2 (aJ3 n) ns cs=some y→∀(w:World) (Im:Nat→Prop) (φ:o8) (vs:Array Value),cs.length=vs.size→(∀(i:Nat) (d:D) (v:Value),cs[i]? =some d→vs[i]? =some v→i7 w Im φ d v)→
    y.2.length=vs.size∧∀(i:Nat) (d:D) (v:Value),y.2[i]? =some d→vs[i]? =some v→i7 w Im φ d v:=fun cs y hy w Im φ vs h1 h2=>by
   obtain⟨g1,g2⟩:=aU8 (br6 n) _ _ _ hy
   refine⟨by omega,fun i d v a b=> ?_⟩
   have hl:=(List.getElem?_eq_some_iff.1 a).1
   have ha:cs[i]? =some (cs[i]'(by omega)):=by simp
   exact g2 i _ d ha a w Im φ v (h2 i _ v ha b)
  simp only[aJ3] at h
  split at h
  ·rename_i z rows
   split at h
   ·obtain rfl:=Option.some.inj h
    intro w Im φ v hr
    obtain⟨rfl,rfl⟩:=hr.nilsl_inv
    exact .nilsl2 _
   ·obtain rfl:=Option.some.inj h;exact fun _ _ _ _ h=>h
   ·obtain rfl:=Option.some.inj h;exact fun _ _ _ _ h=>h
  ·rename_i cs
   split at h
   ·rename_i y hy
    obtain rfl:=Option.some.inj h
    intro w Im φ v hr
    obtain⟨vs,rfl,h1,h2⟩:=hr.agg_inv
    obtain⟨k1,k2⟩:=agg _ _ hy w Im φ vs h1 h2
    exact .agg _ _ k1 k2
   ·cases h
  ·rename_i cs
   split at h
   ·rename_i y hy
    obtain rfl:=Option.some.inj h
    intro w Im φ v hr
    obtain⟨vs,rfl,h1,h2⟩:=hr.tup_inv
    obtain⟨k1,k2⟩:=agg _ _ hy w Im φ vs h1 h2
    exact .tup _ _ k1 k2
   ·cases h
  ·obtain rfl:=Option.some.inj h;exact fun _ _ _ _ h=>h
def cG7 (ns:List (Option Nat)) (d:D):Option D:=(aJ3 4 ns d).map (·.2)
def bp8 (ns:List (Option Nat)) (l:List D):Option (List D):=(aR2 (aJ3 4) ns l).map (·.2)
def bs0:List (Option Nat)→List (List D)→Option (List (List D))
 | _,[]=>some []
 | ns,r::rs=>match aR2 (aJ3 4) ns r with
  | some x=>(match bs0 x.1 rs with | some y=>some (x.2::y) | none=>none)
  | none=>none
theorem cv5 {ns:List (Option Nat)}{d:D}{x:List (Option Nat)×D} (h:aJ3 4 ns d=some x) (hs:t9 d=true):t9 x.2=true:=by
 cases d<;>simp[t9] at hs<;>simp only[aJ3] at h
 case sl nl z rows=>
  cases nl
  ·obtain rfl:=Option.some.inj h;rfl
  ·rcases ns with _ | ⟨n0,ns0⟩
   ·obtain rfl:=Option.some.inj h;rfl
   ·cases n0<;>(obtain rfl:=Option.some.inj h;rfl)
 all_goals (obtain rfl:=Option.some.inj h;rfl)
theorem bS1:∀(ns:List (Option Nat)) (l:List D) (y:List (Option Nat)×List D),aR2 (aJ3 4) ns l=some y→∀(i:Nat) (d d' :D),l[i]? =some d→y.2[i]? =some d' →t9 d=true→t9 d' =true
 | ns,[],y,h=>fun i d d' a=>by simp at a
 | ns,d::r,y,h=>by
  simp only[aR2] at h
  split at h
  ·rename_i x hx
   split at h
   ·rename_i z hz
    obtain rfl:=Option.some.inj h
    intro i d1 d2 a b
    cases i with
    | zero=>
     simp only[List.getElem?_cons_zero,Option.some.injEq] at a b
     subst a;subst b
     exact cv5 hx
    | succ i=>exact bS1 _ _ _ hz i d1 d2 (by simpa using a) (by simpa using b)
   ·cases h
  ·cases h
theorem bn0:∀{ns:List (Option Nat)}{l l' :List (List D)},bs0 ns l=some l' →l.length=l'.length∧∀(i:Nat) (r r' :List D),l[i]? =some r→l'[i]? =some r' →r.length=r'.length∧∀(j:Nat) (d d' :D),r[j]? =some d→r'[j]? =some d' →Wk d d' ∧(t9 d=true→t9 d' =true)
 | ns,[],l',h=>by
  obtain rfl:=Option.some.inj h
  exact⟨rfl,fun i r r' a=>by simp at a⟩
 | ns,r::rs,l',h=>by
  simp only[bs0] at h
  split at h
  ·rename_i x hx
   split at h
   ·rename_i y hy
    obtain rfl:=Option.some.inj h
    obtain⟨h1,h2⟩:=bn0 hy
    obtain⟨g1,g2⟩:=aU8 (br6 4) _ _ _ hx
    refine⟨by simp[h1],fun i a b e1 e2=> ?_⟩
    cases i with
    | zero=>
     simp only[List.getElem?_cons_zero,Option.some.injEq] at e1 e2
     subst e1;subst e2
     exact⟨g1,fun j d d' k1 k2=>⟨g2 j d d' k1 k2,bS1 _ _ _ hx j d d' k1 k2⟩⟩
    | succ i=>exact h2 i a b (by simpa using e1) (by simpa using e2)
   ·cases h
  ·cases h
theorem cN7 {ns:List (Option Nat)}{d d' :D} (h:cG7 ns d=some d'):Wk d d' :=by
 simp only[cG7,Option.map_eq_some_iff] at h
 obtain⟨x,h1,rfl⟩:=h
 exact br6 _ _ _ _ h1
theorem cA6 {ns:List (Option Nat)}{l l' :List D} (h:bp8 ns l=some l') {w:World}{Im:Nat→Prop}{φ:o8}{vs:List Value} (hr:E3 w Im φ l vs):E3 w Im φ l' vs:=by
 simp only[bp8,Option.map_eq_some_iff] at h
 obtain⟨x,h1,rfl⟩:=h
 obtain⟨g1,g2⟩:=aU8 (br6 4) _ _ _ h1
 refine⟨by rw[←g1];exact hr.1,fun i d v a b=> ?_⟩
 have hl:=(List.getElem?_eq_some_iff.1 a).1
 have ha:l[i]? =some (l[i]'(by omega)):=by simp
 exact g2 i _ d ha a w Im φ v (hr.2 i _ v ha b)
section
variable {E : E7} {C : Cx} {Q : D → i4 → Prop}
theorem l4.args {f:FuncId}{args args' :List D}{σ:i4}{ns:List (Option Nat)} (h:bp8 ns args=some args') (hs:l4 E f args' σ Q):l4 E f args σ Q:=
 fun w Im φ vs hg hi ha=>hs w Im φ vs hg hi (cA6 h ha)
/-! ### cuts -/
/-- What is done at a cut: a slot that holds nil gets a block; nil slices in a slot, or in a block's rows, become slices of nothing; a block's cell that holds nil gets a block. -/
inductive Fx where
  | mat (t sz : Nat)
  | slot (t : Nat) (ns : List (Option Nat))
  | blk (b : Nat) (ns : List (Option Nat))
  | matc (b i o sz : Nat)
  | unex (t : Nat)
  | matt (t i sz : Nat)
  | mv (b : Nat)
def bn9 (g:D→Option D) (t:Nat):Fr→Option Fr
 | []=>some []
 | x::r=>match (if x.1=t then g x.2 else some x.2),bn9 g t r with
  | some d,some r' =>some ((x.1,d)::r')
  | _,_=>none
def aN7:D→Bool
 | .sl true _ _=>true
 | _=>false
def cJ6:D→D
 | .msl b i len lo _=> .msl b i len lo false
 | d=>d
def cJ9 (n i:Nat):D→Option D
 | .tup cs=>(match cs[i]? with
  | some d=>if aN7 d then some (.tup (cs.set i (.msl n 0 0 0 false))) else none
  | none=>none)
 | _=>none
def mvH (b n c:Nat):Option Nat:=bif Nat.beq c b then some n else some c
def fx1:Fx→Fr×i4→Option (Fr×i4)
 | .mv b,m=>(match sget m.2 b,be8 (tr (M8 (mvH b m.2.length)) l8) m.1,C6 (tr (M8 (mvH b m.2.length)) l8) (m.2.set b none++ [m.2[b]?.join]) with
  | some _,some fr,some s=>some (fr,s)
  | _,_,_=>none)
 | .matt t i sz,m=>if 0<sz then (bn9 (cJ9 m.2.length i) t m.1).map fun fr=>(fr,m.2++ [some ⟨sz,false,[]⟩]) else none
 | .unex t,m=>(bn9 (fun d=>some (cJ6 d)) t m.1).map fun fr=>(fr,m.2)
 | .mat t sz,m=>if 0<sz then (bn9 (fun d=>if aN7 d then some (.msl m.2.length 0 0 0 false) else none) t m.1).map fun fr=>(fr,m.2++ [some ⟨sz,false,[]⟩]) else none
 | .slot t ns,m=>(bn9 (cG7 ns) t m.1).map fun fr=>(fr,m.2)
 | .blk b ns,m=>(match sget m.2 b with
  | some B=>(bs0 ns B.rows).map fun rows=>(m.1,m.2.set b (some ⟨B.sz,B.deep,rows⟩))
  | none=>none)
 | .matc b i o sz,m=>(match sget m.2 b with
  | some B=>(match B.rows[i]? with
   | some r=>(match r[o]? with
    | some d=>if 0<sz∧aN7 d then some (m.1,m.2.set b (some ⟨B.sz,true,B.rows.set i (r.set o (.msl m.2.length 0 0 0 false))⟩)++ [some ⟨sz,false,[]⟩]) else none
    | none=>none)
   | none=>none)
  | none=>none)
def fxs:List Fx→Fr×i4→Option (Fr×i4)
 | [],m=>some m
 | f::r,m=>match fx1 f m with | some m' =>fxs r m' | none=>none
theorem aS2 {g:D→Option D}{t:Nat}:∀{fr fr' :Fr},bn9 g t fr=some fr' →∀s,(s≠t→o5 fr' s=o5 fr s)∧(s=t→(o5 fr' s=.undef∧o5 fr s=.undef)∨g (o5 fr s)=some (o5 fr' s))
 | [],fr',h,s=>by
  simp only[bn9,Option.some.injEq] at h
  subst h
  exact⟨fun _=>rfl,fun _=> .inl ⟨rfl,rfl⟩⟩
 | x::r,fr',h,s=>by
  simp only[bn9] at h
  split at h
  ·rename_i d r' h1 h2
   obtain rfl:=Option.some.inj h
   have ih:=aS2 h2 s
   simp only[o5,Bool.cond_eq_ite]
   by_cases hx:Nat.beq x.1 s=true
   ·have hx' :=Nat.eq_of_beq_eq_true hx
    simp only[hx,if_true]
    refine⟨fun hne=> ?_,fun he=> .inr ?_⟩
    ·rw[if_neg (by omega)] at h1
     exact(Option.some.inj h1).symm
    ·rw[if_pos (by omega)] at h1
     exact h1
   ·simp only[hx]
    exact ih
  ·cases h
theorem cF6 {w:World}{Im:Nat→Prop}{φ:o8}{d:D}{v:Value} (h:i7 w Im φ d v):i7 w Im φ (cJ6 d) v:=by
 cases d with
 | msl b i len lo ex=>
  cases h with
  | mnil b i ex l h=>exact .mnil _ _ _ _ h
  | msl b i len lo ex l cap a g1 g2 g3 g4 g5 g6 g7=>exact .msl _ _ _ _ _ _ _ _ g1 g2 g3 (fun h=>by cases h) g5 g6 g7
 | _=>exact h
theorem Inv.map {w:World}{Im:Nat→Prop}{φ:o8}{σ σ' :i4}{f:D→Option D} (hi:Inv w Im φ σ) (hf:∀d d' v,i7 w Im φ d v→f d=some d' →i7 w Im φ d' v) (hs:∀d d',t9 d=true→f d=some d' →t9 d' =true) (h:C6 f σ=some σ'):
  Inv w Im φ σ' ∧∀c,m8 φ σ' c→m8 φ σ c:=by
 obtain⟨h1,h2⟩:=J9 h
 have hown:∀c,m8 φ σ' c→m8 φ σ c:=fun c ⟨b,B,l,e1,e2,e3⟩=>let ⟨B0,e4,_⟩:=h2 b B e2;⟨b,B0,l,e1,e4,e3⟩
 refine⟨⟨by rw[h1];exact hi.len,fun b B l e1 e2=> ?_,fun b b' B B' l l' hne e1 e2 e3 e4 p1 p2=> ?_,fun c hc ho=>hi.sep c hc (hown c ho),hi.im⟩,hown⟩
 ·obtain⟨B0,e3,e4⟩:=h2 b B e1
  exact ah6 (fun _ h=>h) hf hs e4 (hi.blk b B0 l e3 e2)
 ·obtain⟨B0,e5,_⟩:=h2 b B e3
  obtain⟨B0',e6,_⟩:=h2 b' B' e4
  exact hi.inj b b' B0 B0' l l' hne e1 e2 e5 e6 p1 p2
theorem Inv.mv {w:World}{Im:Nat→Prop}{φ:o8}{σ:i4} (hi:Inv w Im φ σ) {b:Nat}{B:A5}{l:Q3} (hB:sget σ b=some B) (hl:φ[b]? =some l):
  Inv w Im (φ++ [l]) (σ.set b none++ [some B])∧∀c,m8 (φ++ [l]) (σ.set b none++ [some B]) c→m8 φ σ c:=by
 have hbl:=I7 hB
 have hlen:=hi.len
 have hget:∀c A k,sget (σ.set b none++ [some B]) c=some A→(φ++ [l])[c]? =some k→(c<σ.length∧c≠b∧sget σ c=some A∧φ[c]? =some k)∨(c=σ.length∧A=B∧k=l):=fun c A k h1 h2=>by
  by_cases hc:c<σ.length
  ·rw[z7 (by simpa using hc)] at h1
   rw[List.getElem?_append_left (by omega)] at h2
   by_cases hbc:b=c
   ·subst hbc
    exfalso
    rw[J5,List.getElem?_set_self (by omega)] at h1
    cases h1
   ·rw[z5 hbc] at h1
    exact .inl ⟨hc,fun e=>hbc e.symm,h1,h2⟩
  ·have h3:=I7 h1
   simp at h3
   have hc' :c=σ.length:=by omega
   subst hc'
   rw[J5,List.getElem?_append_right (by simp)] at h1
   rw[←hlen,List.getElem?_append_right (by simp)] at h2
   simp at h1 h2
   exact .inr ⟨rfl,h1.symm,h2.symm⟩
 have hown:∀c,m8 (φ++ [l]) (σ.set b none++ [some B]) c→m8 φ σ c:=by
  rintro c ⟨b',B',l',e1,e2,e3,hp⟩
  rcases hget b' B' l' e2 e1 with⟨_,_,h1,h2⟩ | ⟨_,rfl,rfl⟩
  ·exact⟨b',B',l',h2,h1,e3,hp⟩
  ·exact⟨b,_,_,hl,hB,e3,hp⟩
 refine⟨⟨by simp[hlen],fun c A k h1 h2=> ?_,fun c c' A A' k k' hne h1 h2 h3 h4 p1 p2=> ?_,fun c hc ho=>hi.sep c hc (hown c ho),hi.im⟩,hown⟩
 ·rcases hget c A k h1 h2 with⟨_,_,e1,e2⟩ | ⟨_,rfl,rfl⟩
  ·exact(hi.blk c A k e1 e2).of_heap (fun _=>rfl) (Nat.le_refl _) (fun _ h=>h) (fun _ _=>rfl) (l5.append _ _)
  ·exact(hi.blk b _ _ hB hl).of_heap (fun _=>rfl) (Nat.le_refl _) (fun _ h=>h) (fun _ _=>rfl) (l5.append _ _)
 ·rcases hget c A k h3 h1 with⟨_,n1,e1,e2⟩ | ⟨z1,rfl,rfl⟩<;>rcases hget c' A' k' h4 h2 with⟨_,n2,g1,g2⟩ | ⟨z2,rfl,rfl⟩
  ·exact hi.inj c c' A A' k k' hne e2 g2 e1 g1 p1 p2
  ·exact hi.inj c b A _ k _ n1 e2 hl e1 hB p1 p2
  ·exact hi.inj b c' _ A' _ k' (fun e=>n2 e.symm) hl g2 hB g1 p1 p2
  ·omega
theorem cV5 {f:Fx}{m m' :Fr×i4} (h:fx1 f m=some m'):MW m m' :=by
 obtain⟨fr,σ⟩:=m
 intro k w Im φ v hk hi hr
 cases f with
 | mv b=>
  simp only[fx1] at h
  split at h
  ·rename_i B fr' s hB h1 h2
   obtain rfl:=Option.some.inj h
   obtain⟨l,hl,_⟩:=hi.loc hB
   obtain⟨i1,i2⟩:=hi.mv hB hl
   have hj:σ[b]?.join=some B:=by rw[J5.1 hB];rfl
   rw[hj] at h2
   have hf:∀d d' v,i7 w Im (φ++ [l]) d v→tr (M8 (mvH b σ.length)) l8 d=some d' →i7 w Im (φ++ [l]) d' v:=fun d d' v a b=>ak4 (fun _ h=>h) (fun x c l' e1 e2=>by
    simp only[mvH,Bool.cond_eq_ite] at e1
    split at e1
    ·rename_i hx
     obtain rfl:=Option.some.inj e1
     have:=Nat.eq_of_beq_eq_true hx
     subst this
     rw[List.getElem?_append_left (List.getElem?_eq_some_iff.1 hl).1,hl] at e2
     rw[←e2];exact ac8 hi.len l
    ·obtain rfl:=Option.some.inj e1;exact e2) l8 d d' v a b
   obtain⟨j1,j2⟩:=i1.map hf (as4 (aq4 _) l8) h2
   refine⟨_,l5.append _ _,by simp,⟨⟨Nat.le_refl _,fun _ _ _=>rfl,Io.refl w⟩,fun c hc=> .inl (i2 c (j2 c hc)),fun c hc=>by rw[List.getElem?_append_left (by omega)],fun _ h=>h,fun _ h=> .inl h⟩,j1,fun t=> ?_⟩
   rcases aT9 h1 t with⟨g1,g2⟩ | g
   ·simp only[g1];exact .undef _
   ·exact hf _ _ _ ((hr t).mono (fun _ h=>h) (fun _ _=>rfl) (l5.append _ _)) g
  ·cases h
 | mat t sz=>
  simp only[fx1] at h
  split at h
  ·rename_i hpos
   simp only[Option.map_eq_some_iff] at h
   obtain⟨fr',h1,rfl⟩:=h
   obtain⟨n1,n2⟩:=hi.nothing hpos false
   refine⟨_,l5.append _ _,by simp,n2.le hk,n1,fun s=> ?_⟩
   have hg:=aS2 h1 s
   by_cases hs:s=t
   ·rcases hg.2 hs with⟨h2,-⟩ | h2
    ·simp only[h2];exact .undef _
    ·have hrs:=hr s
     simp only at h2 hrs
     split at h2
     ·rename_i hn
      have h3:=Option.some.inj h2
      show i7 w Im _ (o5 fr' s) (v s)
      rw[←h3]
      revert hrs
      generalize o5 fr s=d at hn
      intro hrs
      cases d with
      | sl nl z rows=>
       cases nl with
       | true=>
        obtain⟨e,-⟩:=hrs.nilsl_inv
        rw[e]
        exact .mnil _ _ _ _ (ac8 hi.len _)
       | false=>simp[aN7] at hn
      | _=>simp[aN7] at hn
     ·cases h2
   ·rw[hg.1 hs]
    exact(hr s).mono (fun _ h=>h) (fun _ _=>rfl) (l5.append _ _)
  ·cases h
 | matt t i sz=>
  simp only[fx1] at h
  split at h
  ·rename_i hpos
   simp only[Option.map_eq_some_iff] at h
   obtain⟨fr',h1,rfl⟩:=h
   obtain⟨n1,n2⟩:=hi.nothing hpos false
   refine⟨_,l5.append _ _,by simp,n2.le hk,n1,fun s=> ?_⟩
   have hg:=aS2 h1 s
   by_cases hs:s=t
   ·rcases hg.2 hs with⟨h2,-⟩ | h2
    ·simp only[h2];exact .undef _
    ·have hrs:=hr s
     simp only at h2 hrs
     revert hrs
     generalize o5 fr s=d at h2
     intro hrs
     cases d with
     | tup cs=>
      simp only[cJ9] at h2
      split at h2
      ·rename_i x hx
       split at h2
       ·rename_i hn
        have h3:=Option.some.inj h2
        show i7 w Im _ (o5 fr' s) (v s)
        rw[←h3]
        obtain⟨vs,hv,k1,k2⟩:=hrs.tup_inv
        rw[hv]
        refine .tup _ _ (by rw[List.length_set];exact k1) fun j d' v' a b=> ?_
        rw[List.getElem?_set] at a
        split at a
        ·rename_i hij
         subst hij
         split at a
         ·obtain rfl:=Option.some.inj a
          have hrx:=k2 i x v' hx b
          cases x with
          | sl nl z rows=>
           cases nl with
           | true=>
            obtain⟨e,-⟩:=hrx.nilsl_inv
            rw[e]
            exact .mnil _ _ _ _ (ac8 hi.len _)
           | false=>simp[aN7] at hn
          | _=>simp[aN7] at hn
         ·cases a
        ·exact(k2 j d' v' a b).mono (fun _ h=>h) (fun _ _=>rfl) (l5.append _ _)
       ·cases h2
      ·cases h2
     | _=>cases h2
   ·rw[hg.1 hs]
    exact(hr s).mono (fun _ h=>h) (fun _ _=>rfl) (l5.append _ _)
  ·cases h
 | unex t=>
  simp only[fx1,Option.map_eq_some_iff] at h
  obtain⟨fr',h1,rfl⟩:=h
  refine⟨φ,l5.refl _,Nat.le_refl _,Tr.refl _ _ _ _ _,hi,fun s=> ?_⟩
  have hg:=aS2 h1 s
  by_cases hs:s=t
  ·rcases hg.2 hs with⟨h2,-⟩ | h2
   ·simp only[h2];exact .undef _
   ·have hrs:=hr s
    simp only at h2 hrs
    have h3:=Option.some.inj h2
    show i7 w Im _ (o5 fr' s) (v s)
    rw[←h3]
    exact cF6 hrs
  ·rw[hg.1 hs];exact hr s
 | slot t ns=>
  simp only[fx1,Option.map_eq_some_iff] at h
  obtain⟨fr',h1,rfl⟩:=h
  refine⟨φ,l5.refl _,Nat.le_refl _,Tr.refl _ _ _ _ _,hi,fun s=> ?_⟩
  have hg:=aS2 h1 s
  by_cases hs:s=t
  ·rcases hg.2 hs with⟨h2,-⟩ | h2
   ·simp only[h2];exact .undef _
   ·exact cN7 h2 _ _ _ _ (hr s)
  ·rw[hg.1 hs];exact hr s
 | blk b ns=>
  simp only[fx1] at h
  split at h
  ·rename_i B hB
   simp only[Option.map_eq_some_iff] at h
   obtain⟨rows,h1,rfl⟩:=h
   have hbl:=I7 hB
   have hown:∀c,m8 φ (σ.set b (some ⟨B.sz,B.deep,rows⟩)) c→m8 φ σ c:=by
    rintro c ⟨b1,B1,l1,e1,e2,e3,hp⟩
    by_cases hbb:b=b1
    ·subst hbb;exact⟨b,B,l1,e1,hB,e3,hp⟩
    ·rw[z5 hbb] at e2;exact⟨b1,B1,l1,e1,e2,e3,hp⟩
   have hget:∀b1 B1,sget (σ.set b (some ⟨B.sz,B.deep,rows⟩)) b1=some B1→∃B0,sget σ b1=some B0:=fun b1 B1 e=>by
    by_cases hbb:b=b1
    ·subst hbb;exact⟨B,hB⟩
    ·rw[z5 hbb] at e;exact⟨B1,e⟩
   refine⟨φ,l5.refl _,Nat.le_refl _,⟨⟨Nat.le_refl _,fun _ _ _=>rfl,⟨rfl,rfl,rfl⟩⟩,fun c hc=> .inl (hown c hc),fun _ _=>rfl,fun _ h=>h,fun _ h=> .inl h⟩,
    ⟨by simp[hi.len],fun b1 B1 l1 e1 e2=> ?_,fun b1 b2 B1 B2 l1 l2 hne e1 e2 e3 e4 p1 p2=> ?_,fun c hc ho=>hi.sep c hc (hown c ho),hi.im⟩,hr⟩
   ·by_cases hbb:b=b1
    ·subst hbb
     rw[P1 hbl] at e1
     obtain rfl:=Option.some.inj e1
     have hk0:=hi.blk b B l1 hB e2
     obtain⟨hlen,hrw⟩:=bn0 h1
     refine⟨hk0.pos,hk0.sz,fun r hr=> ?_,by simp only[←hlen];exact hk0.fit,hk0.mem,hk0.lt,hk0.fz,fun i j r d a c=> ?_⟩
     ·obtain⟨i,hi1,rfl⟩:=List.mem_iff_getElem.1 hr
      simp only at hi1
      have e0:B.rows[i]? =some (B.rows[i]'(by omega)):=by simp
      obtain⟨k1,k2⟩:=hrw i _ _ e0 (List.getElem?_eq_getElem hi1)
      have ho:=hk0.len _ (List.getElem_mem (by omega:i<B.rows.length))
      refine⟨by rw[←k1];exact ho.1,List.all_eq_true.2 fun d hd=> ?_⟩
      obtain⟨j,hj,rfl⟩:=List.mem_iff_getElem.1 hd
      exact(k2 j _ _ (List.getElem?_eq_getElem (by rw[k1];exact hj)) (List.getElem?_eq_getElem hj)).2 (List.all_eq_true.1 ho.2 _ (List.getElem_mem _))
     ·obtain⟨r0,hr0⟩:=ab7 hlen a
      obtain⟨k1,k2⟩:=hrw i r0 r hr0 a
      obtain⟨d0,hd0⟩:=ab7 k1 c
      obtain⟨u,hu,hur⟩:=hk0.rel i j r0 d0 hr0 hd0
      exact⟨u,hu,(k2 j d0 d hd0 c).1 _ _ _ _ hur⟩
    ·rw[z5 hbb] at e1;exact hi.blk b1 B1 l1 e1 e2
   ·obtain⟨C1,f1⟩:=hget _ _ e3
    obtain⟨C2,f2⟩:=hget _ _ e4
    exact hi.inj b1 b2 C1 C2 l1 l2 hne e1 e2 f1 f2 p1 p2
  ·cases h
 | matc b i o sz=>
  simp only[fx1] at h
  split at h
  ·rename_i B hB
   split at h
   ·rename_i r hrow
    split at h
    ·rename_i d hd
     split at h
     ·rename_i hc
      obtain⟨hpos,hn⟩:=hc
      obtain rfl:=Option.some.inj h
      obtain⟨n1,n2⟩:=hi.nothing hpos false
      have hbl:=I7 hB
      have hφ:l5 φ (φ++ [Q3.mk 0 0 sz 0]):=l5.append _ _
      have hset:(σ.set b (some (A5.mk B.sz true (B.rows.set i (r.set o (D.msl σ.length 0 0 0 false))))))++ [some (A5.mk sz false [])]=(σ++ [some (A5.mk sz false [])]).set b (some (A5.mk B.sz true (B.rows.set i (r.set o (D.msl σ.length 0 0 0 false))))):=by
       rw[List.set_append_left _ _ hbl]
      have hB' :sget (σ++ [some (A5.mk sz false [])]) b=some B:=by rw[z7 hbl];exact hB
      have hown:∀c,m8 (φ++ [Q3.mk 0 0 sz 0]) ((σ++ [some (A5.mk sz false [])]).set b (some (A5.mk B.sz true (B.rows.set i (r.set o (D.msl σ.length 0 0 0 false)))))) c→m8 (φ++ [Q3.mk 0 0 sz 0]) (σ++ [some (A5.mk sz false [])]) c:=by
       rintro c ⟨b1,B1,l1,e1,e2,e3,hp⟩
       by_cases hbb:b=b1
       ·subst hbb;exact⟨b,B,l1,e1,hB',e3,hp⟩
       ·rw[z5 hbb] at e2;exact⟨b1,B1,l1,e1,e2,e3,hp⟩
      have hget:∀b1 B1,sget ((σ++ [some (A5.mk sz false [])]).set b (some (A5.mk B.sz true (B.rows.set i (r.set o (D.msl σ.length 0 0 0 false)))))) b1=some B1→∃B0,sget (σ++ [some (A5.mk sz false [])]) b1=some B0:=fun b1 B1 e=>by
       by_cases hbb:b=b1
       ·subst hbb;exact⟨B,hB'⟩
       ·rw[z5 hbb] at e;exact⟨B1,e⟩
      simp only[hset]
      refine⟨_,hφ,by simp,⟨⟨Nat.le_refl _,fun _ _ _=>rfl,⟨rfl,rfl,rfl⟩⟩,fun c hc=>(n2.le hk).own c (hown c hc),(n2.le hk).pre,fun _ h=>h,fun _ h=> .inl h⟩,
       ⟨by simp[hi.len],fun b1 B1 l1 e1 e2=> ?_,fun b1 b2 B1 B2 l1 l2 hne e1 e2 e3 e4 p1 p2=> ?_,fun c hc ho=>n1.sep c hc (hown c ho),hi.im⟩,fun s=>(hr s).mono (fun _ h=>h) (fun _ _=>rfl) hφ⟩
      ·by_cases hbb:b=b1
       ·subst hbb
        rw[P1 (by simp;omega)] at e1
        obtain rfl:=Option.some.inj e1
        have hk0:=n1.blk b B l1 hB' e2
        have hrl:=hk0.len r (List.mem_of_getElem? hrow)
        have hol:=(List.getElem?_eq_some_iff.1 hd).1
        have hil:=(List.getElem?_eq_some_iff.1 hrow).1
        refine⟨hk0.pos,hk0.sz,fun x hx=> ?_,by simpa using hk0.fit,hk0.mem,hk0.lt,hk0.fz,fun i' j x e a c=> ?_⟩
        ·rcases List.mem_or_eq_of_mem_set hx with hx | rfl
         ·exact hk0.len x hx
         ·refine⟨by simp[hrl.1],List.all_eq_true.2 fun y hy=> ?_⟩
          rcases List.mem_or_eq_of_mem_set hy with hy | rfl
          ·exact List.all_eq_true.1 hrl.2 y hy
          ·rfl
        ·simp only[if_true]
         simp only[List.getElem?_set] at a
         have old:∀r0 d0,B.rows[i']? =some r0→r0[j]? =some d0→∃u,w.cell? ⟨l1.blk,l1.base+i' *B.sz+j,none⟩=some u∧i7 w Im (φ++ [Q3.mk 0 0 sz 0]) d0 u:=fun r0 d0 q1 q2=>by
          obtain⟨u,hu,hur⟩:=hk0.rel i' j r0 d0 q1 q2
          exact⟨u,hu,hur.mono (fun _ h=>h) (fun _ _=>rfl) (by split;exact l5.refl _;exact l5.nil _)⟩
         by_cases hii:i=i'
         ·subst hii
          simp only[if_true,hil,Option.some.injEq] at a
          subst a
          simp only[List.getElem?_set] at c
          by_cases hoo:o=j
          ·subst hoo
           simp only[if_true,hol,Option.some.injEq] at c
           subst c
           obtain⟨u,hu,hur⟩:=old r d hrow hd
           refine⟨u,hu,?_⟩
           cases d with
           | sl nl z rows0=>
            cases nl with
            | true=>
             obtain⟨e0,-⟩:=hur.nilsl_inv
             rw[e0]
             exact .mnil _ _ _ _ (ac8 hi.len _)
            | false=>simp[aN7] at hn
           | _=>simp[aN7] at hn
          ·simp only[if_neg hoo] at c
           exact old r e hrow c
         ·simp only[if_neg hii] at a
          exact old x e a c
       ·rw[z5 hbb] at e1;exact n1.blk b1 B1 l1 e1 e2
      ·obtain⟨C1,f1⟩:=hget _ _ e3
       obtain⟨C2,f2⟩:=hget _ _ e4
       exact n1.inj b1 b2 C1 C2 l1 l2 hne e1 e2 f1 f2 p1 p2
     ·cases h
    ·cases h
   ·cases h
  ·cases h
theorem MW.trans {a b c:Fr×i4} (h:MW a b) (k:MW b c):MW a c:=fun n w Im φ v hn hi hr=>by
 obtain⟨φ1,a1,a2,a3,a4,a5⟩:=h n w Im φ v hn hi hr
 obtain⟨φ2,b1,b2,b3,b4,b5⟩:=k n w Im φ1 v (by omega) a4 a5
 exact⟨φ2,a1.trans b1,by omega,a3.trans b3,b4,b5⟩
theorem bn8:∀{l:List Fx}{m m' :Fr×i4},fxs l m=some m' →MW m m'
 | [],m,m',h=>by
  simp only[fxs,Option.some.injEq] at h
  subst h
  exact fun k w Im φ v hk hi hr=>⟨φ,l5.refl _,Nat.le_refl _,Tr.refl _ _ _ _ _,hi,hr⟩
 | f::r,m,m',h=>by
  simp only[fxs] at h
  split at h
  ·rename_i m1 h1
   exact(cV5 h1).trans (bn8 h)
  ·cases h
theorem l4.res {f:FuncId}{args:List D}{σ:i4} (hs:l4 E f args σ (QW Q)):l4 E f args σ Q:=
 fun w Im φ vs hg hi ha=>(hs w Im φ vs hg hi ha).mono fun e w' ⟨v,d,σ',φ',Im',a,b,c,hr,d',s',hw,hq⟩=>by
  have hlen:σ.length≤φ'.length:=by
   rcases Nat.lt_or_ge φ'.length σ.length with hlt | hge
   ·exfalso
    have h1:=b.pre φ'.length hlt
    have hl:=hi.len
    rw[List.getElem?_eq_getElem (by omega:φ'.length<φ.length)] at h1
    simp at h1
   ·exact hge
  obtain⟨φ2,b1,b2,b3,b4,b5⟩:=hw σ.length w' Im' φ' (fun _=>v) hlen c (fun t=>by
   simp only[o5,Bool.cond_eq_ite];split;exact hr;exact .undef _)
  have h0:=b5 0
  simp only[o5,Nat.beq_refl,cond_true] at h0
  exact⟨v,d',s',φ2,Im',a,b.trans b3,b4,h0,hq⟩
def cF5 (C:Cx) (mask:Nat) (l:List Fx) (m:M):Option M:=
 match fxs l (bc2 C.fn.ntmps mask m.fr,m.st) with
 | some x=>(match aP1 C.m x.1 x.2 with
  | some y=>some ⟨m.td,y.1,y.2⟩
  | none=>none)
 | none=>none
theorem cP2 {mask:Nat}{l:List Fx}{m m' :M} (hc:cF5 C mask l m=some m') (h:cb7 E C Q m'):cb7 E C Q m:=by
 unfold cF5 at hc
 split at hc
 ·rename_i x hx
  split at hc
  ·rename_i y hy
   obtain rfl:=Option.some.inj hc
   intro FF nf hFF lo0 a w Im φ hs R hR
   have hkeep:∀t,i7 w Im φ (o5 (bc2 C.fn.ntmps mask m.fr) t) (a.tmps.getD t undef):=fun t=>ci1 hs.fr t
   obtain⟨φ1,a1,a2,a3,a4,a5⟩:=bn8 hx C.m w Im φ (fun t=>a.tmps.getD t undef) hs.m hs.inv hkeep
   have hm1:C.m≤φ1.length:=Nat.le_trans hs.m a2
   obtain⟨φ2,i1,i2,i3⟩:=aL7 a4 hm1 hy a5
   refine h FF nf hFF lo0 a w Im φ2 ⟨i3,i1,hs.sd.tr (Nat.le_refl _) hs.inv (a3.trans i2) i1,hs.sz,?_⟩ R (fun e a' w' hd=>hR e a' w' (N5.of_tr (a3.trans i2) hd))
   rcases Nat.lt_or_ge φ2.length C.m with hlt | hge
   ·exfalso
    have h1:=i2.pre φ2.length hlt
    rw[List.getElem?_eq_getElem (by omega:φ2.length<φ1.length)] at h1
    simp at h1
   ·exact hge
  ·cases hc
 ·cases hc
def Qy.cut (C:Cx) (mask:Nat) (l:List Fx):Qy→Option M
 | .go m=>cF5 C mask l m
 | _=>none
theorem aL8 {q:Qy} (mask:Nat) (l:List Fx) {m' :M} (h:q.cut C mask l=some m') (hk:i6 E C Q (.go m')):i6 E C Q q:=by
 cases q with
 | go m=>exact cP2 h hk
 | _=>cases h
theorem db8 {m:M} (t:Nat) {b i len lo:Nat}{ex:Bool}{B:A5}{rs:List (List D)} (h1:o5 m.fr t=.msl b i len lo ex) (h2:sget m.st b=some B) (h3:B.deep=false) (h4:Nat.ble (i+len) B.rows.length=true)
  (h5:(B.rows.drop i).take len=rs) (hk:i6 E C Q (.go ⟨m.td,ai4 m.fr t (.sl false B.sz rs),u9 (fun j=> !(Nat.beq j b)) 0 m.st⟩)):i6 E C Q (.go m):=by
 intro FF nf hFF lo0 a w Im φ hs R hR
 have hgv:=hs.inv.give (fun j=>Nat.beq j b)
 have hir:=hs.inv.sel (fun j=>Nat.beq j b)
 refine hk FF nf hFF lo0 a w _ φ ⟨fun s=> ?_,hgv.1,hs.sd.tr hs.m hs.inv hgv.2 hgv.1,hs.sz,hs.m⟩ R (fun e a' w' hd=>hR e a' w' (N5.of_tr (hgv.2.le hs.m) hd))
 have hold:i7 w (fun c=>Im c∨m8 φ (u9 (fun j=>Nat.beq j b) 0 m.st) c) φ (o5 m.fr s) (a.tmps.getD s undef):=(hs.fr s).mono (fun _ h=> .inl h) (fun _ _=>rfl) (l5.refl _)
 simp only[ai4,o5,Bool.cond_eq_ite]
 split
 ·rename_i he
  have he' :=Nat.eq_of_beq_eq_true he
  subst he'
  have hr:=hs.fr t
  rw[h1] at hr
  have hsel:sget (u9 (fun j=>Nat.beq j b) 0 m.st) b=some B:=by
   have key:∀(p:Nat→Bool) (σ:i4) (k c:Nat) (B:A5),sget σ c=some B→p (k+c)=true→sget (u9 p k σ) c=some B:=by
    intro p σ
    induction σ with
    | nil=>intro k c B h;simp[sget] at h
    | cons x r ih=>
     intro k c B h hp
     cases c with
     | zero=>
      have hp' :p k=true:=by simpa using hp
      simp only[u9,sget,List.getElem?_cons_zero] at h ⊢
      rw[hp'];exact h
     | succ c=>
      have h' :sget r c=some B:=by simpa only[sget,List.getElem?_cons_succ] using h
      have:=ih (k+1) c B h' (by rw[←hp];congr 1;omega)
      simpa only[u9,sget,List.getElem?_cons_succ] using this
   exact key _ _ 0 b B h2 (by simp)
  have hf:W3 (u9 (fun j=>Nat.beq j b) 0 m.st) 0 false 6 (.msl b i len lo ex)=some (.sl false B.sz rs):=by
   simp only[W3,Nat.blt,Nat.ble,cond_false,hsel,h4,cond_true,h3,h5]
  exact ad4 hir (fun c h=> .inl h) (fun b' B' l _ a2 a3 hp=> .inr ⟨b',B',l,a3,a2,rfl,hp⟩) 6 false φ (fun _ b' l hb hl=>hl) _ _ _ (fun _ _ _ _=>trivial) hr hf
 ·exact hold
def Qy.fz (t:Nat):Qy→Option (Nat×Nat×List (List D))
 | .go m=>(match o5 m.fr t with
  | .msl b i len _ _=>(match sget m.st b with
   | some B=>bif B.deep then none else some (i+len,B.rows.length,(B.rows.drop i).take len)
   | none=>none)
  | _=>none)
 | _=>none
def Qy.fzK (t:Nat) (rs:List (List D)):Qy→Qy
 | .go m=>(match o5 m.fr t with
  | .msl b _ _ _ _=>(match sget m.st b with
   | some B=> .go ⟨m.td,ai4 m.fr t (.sl false B.sz rs),u9 (fun j=> !(Nat.beq j b)) 0 m.st⟩
   | none=> .bad)
  | _=> .bad)
 | _=> .bad
theorem bF4 {q:Qy} (t:Nat) {n1 n2:Nat}{raw rs:List (List D)} (h:q.fz t=some (n1,n2,raw)) (h4:Nat.ble n1 n2=true) (h5:raw=rs) (hk:i6 E C Q (q.fzK t rs)):i6 E C Q q:=by
 cases q with
 | go m=>
  simp only[Qy.fz] at h
  split at h
  ·rename_i b i len lo ex h1
   split at h
   ·rename_i B h2
    cases hd:B.deep with
    | true=>rw[hd] at h;cases h
    | false=>
     rw[hd] at h
     simp only[cond_false,Option.some.injEq,Prod.mk.injEq] at h
     obtain⟨rfl,rfl,rfl⟩:=h
     simp only[Qy.fzK,h1,h2] at hk
     exact db8 t h1 h2 hd h4 h5 hk
   ·cases h
  ·cases h
 | _=>cases h
theorem Inv.cell {w:World}{Im:Nat→Prop}{φ:o8}{σ:i4} (h:Inv w Im φ σ) {c:Nat}{A:A5} (hA:sget σ c=some A) {i:Nat}{r:List D} (hrow:A.rows[i]? =some r) {o:Nat}{d d' :D} (hd:r[o]? =some d) (hs:t9 d' =true)
  (hw:∀v,i7 w Im φ d v→i7 w Im φ d' v):
  Inv w Im φ (σ.set c (some ⟨A.sz,(A.rows.set i (r.set o d')).any (·.any r6),A.rows.set i (r.set o d')⟩))∧Tr φ.length w Im φ σ w Im φ (σ.set c (some ⟨A.sz,(A.rows.set i (r.set o d')).any (·.any r6),A.rows.set i (r.set o d')⟩)):=by
 have hbl:=I7 hA
 generalize hN:(⟨A.sz,(A.rows.set i (r.set o d')).any (·.any r6),A.rows.set i (r.set o d')⟩:A5)=N
 have hown:∀x,m8 φ (σ.set c (some N)) x→m8 φ σ x:=by
  rintro x ⟨b1,B1,l1,e1,e2,e3,hp⟩
  by_cases hbb:c=b1
  ·subst hbb;exact⟨c,A,l1,e1,hA,e3,hp⟩
  ·rw[z5 hbb] at e2;exact⟨b1,B1,l1,e1,e2,e3,hp⟩
 have hget:∀b1 B1,sget (σ.set c (some N)) b1=some B1→∃B0,sget σ b1=some B0:=fun b1 B1 e=>by
  by_cases hbb:c=b1
  ·subst hbb;exact⟨A,hA⟩
  ·rw[z5 hbb] at e;exact⟨B1,e⟩
 refine⟨⟨by simp[h.len],fun b1 B1 l1 e1 e2=> ?_,fun b1 b2 B1 B2 l1 l2 hne e1 e2 e3 e4 p1 p2=> ?_,fun x hx ho=>h.sep x hx (hown x ho),h.im⟩,
  ⟨⟨Nat.le_refl _,fun _ _ _=>rfl,⟨rfl,rfl,rfl⟩⟩,fun x hx=> .inl (hown x hx),fun _ _=>rfl,fun _ h=>h,fun _ h=> .inl h⟩⟩
 ·by_cases hbb:c=b1
  ·subst hbb
   rw[P1 hbl] at e1
   obtain rfl:=Option.some.inj e1
   subst hN
   have hk0:=h.blk c A l1 hA e2
   have hrl:=hk0.len r (List.mem_of_getElem? hrow)
   have hlen:∀x∈A.rows.set i (r.set o d'),S8 A.sz x:=fun x hx=>by
    rcases List.mem_or_eq_of_mem_set hx with hx | rfl
    ·exact hk0.len x hx
    ·refine⟨by rw[List.length_set];exact hrl.1,List.all_eq_true.2 fun y hy=> ?_⟩
     rcases List.mem_or_eq_of_mem_set hy with hy | rfl
     ·exact List.all_eq_true.1 hrl.2 y hy
     ·exact hs
   refine⟨hk0.pos,hk0.sz,hlen,by simpa using hk0.fit,hk0.mem,hk0.lt,hk0.fz,fun i' j x e a b=> ?_⟩
   have hxm:=List.mem_of_getElem? a
   have fin:∀v,i7 w Im φ e v→i7 w Im (if ((A.rows.set i (r.set o d')).any (·.any r6)) then φ else []) e v:=fun v hv=>
    aE5 (hlen x hxm).2 (fun hh=>List.any_eq_true.2 ⟨x,hxm,hh⟩) b hv
   have old:∀r0 d0,A.rows[i']? =some r0→r0[j]? =some d0→∃u,w.cell? ⟨l1.blk,l1.base+i' *A.sz+j,none⟩=some u∧i7 w Im φ d0 u:=fun r0 d0 q1 q2=>by
    obtain⟨u,hu,hur⟩:=hk0.rel i' j r0 d0 q1 q2
    exact⟨u,hu,hur.mono (fun _ h=>h) (fun _ _=>rfl) (by split;exact l5.refl _;exact l5.nil _)⟩
   have hil:=(List.getElem?_eq_some_iff.1 hrow).1
   have hol:=(List.getElem?_eq_some_iff.1 hd).1
   simp only[List.getElem?_set] at a
   by_cases hii:i=i'
   ·subst hii
    simp only[if_true,hil,Option.some.injEq] at a
    subst a
    simp only[List.getElem?_set] at b
    by_cases hoo:o=j
    ·subst hoo
     simp only[if_true,hol,Option.some.injEq] at b
     subst b
     obtain⟨u,hu,hur⟩:=old r d hrow hd
     exact⟨u,hu,fin u (hw u hur)⟩
    ·simp only[if_neg hoo] at b
     obtain⟨u,hu,hur⟩:=old r e hrow b
     exact⟨u,hu,fin u hur⟩
   ·simp only[if_neg hii] at a
    obtain⟨u,hu,hur⟩:=old x e a b
    exact⟨u,hu,fin u hur⟩
  ·rw[z5 hbb] at e1;exact h.blk b1 B1 l1 e1 e2
 ·obtain⟨C1,f1⟩:=hget _ _ e3
  obtain⟨C2,f2⟩:=hget _ _ e4
  exact h.inj b1 b2 C1 C2 l1 l2 hne e1 e2 f1 f2 p1 p2
def Qy.fzc (c i o:Nat):Qy→Option (Nat×Nat×List (List D))
 | .go m=>(match sget m.st c with
  | some A=>(match A.rows[i]? with
   | some r=>(match r[o]? with
    | some (.msl b j len _ _)=>(match sget m.st b with
     | some B=>bif B.deep || Nat.beq b c then none else some (j+len,B.rows.length,(B.rows.drop j).take len)
     | none=>none)
    | _=>none)
   | none=>none)
  | none=>none)
 | _=>none
def cX3 (c i o:Nat) (rs:List (List D)) (σ:i4):Option i4:=
 match sget σ c with
  | some A=>(match A.rows[i]? with
   | some r=>(match r[o]? with
    | some (.msl b _ _ _ _)=>(match sget σ b with
     | some B=>some ((u9 (fun j=> !(Nat.beq j b)) 0 σ).set c (some ⟨A.sz,(A.rows.set i (r.set o (.sl false B.sz rs))).any (·.any r6),A.rows.set i (r.set o (.sl false B.sz rs))⟩))
     | none=>none)
    | _=>none)
   | none=>none)
  | none=>none
def Qy.fzcK (c i o:Nat) (rs:List (List D)):Qy→Qy
 | .go m=>(match cX3 c i o rs m.st with | some st=> .go ⟨m.td,m.fr,st⟩ | none=> .bad)
 | _=> .bad
theorem bz2 {p:Nat→Bool}:∀{σ:i4}{k c:Nat}{B:A5},sget σ c=some B→p (k+c)=true→sget (u9 p k σ) c=some B
 | [],_,_,_,h,_=>by simp[sget] at h
 | x::r,k,0,B,h,hp=>by
  have hp' :p k=true:=by simpa using hp
  simp only[u9,sget,List.getElem?_cons_zero] at h ⊢
  rw[hp'];exact h
 | x::r,k,c+1,B,h,hp=>by
  have h' :sget r c=some B:=by simpa only[sget,List.getElem?_cons_succ] using h
  have:=bz2 (k:=k+1) h' (by rw[←hp];congr 1;omega)
  simpa only[u9,sget,List.getElem?_cons_succ] using this
theorem cK6 {q:Qy} (c i o:Nat) {n1 n2:Nat}{raw rs:List (List D)} (h:q.fzc c i o=some (n1,n2,raw)) (h4:Nat.ble n1 n2=true) (h5:raw=rs) (hk:i6 E C Q (q.fzcK c i o rs)):i6 E C Q q:=by
 cases q with
 | go m=>
  simp only[Qy.fzc] at h
  split at h
  ·rename_i A hA
   split at h
   ·rename_i r hrow
    split at h
    ·rename_i b j len lo ex hcell
     split at h
     ·rename_i B hB
      cases hd:(B.deep || Nat.beq b c) with
      | true=>rw[hd] at h;cases h
      | false=>
       rw[hd] at h
       simp only[cond_false,Option.some.injEq,Prod.mk.injEq] at h
       obtain⟨rfl,rfl,rfl⟩:=h
       simp only[Bool.or_eq_false_iff] at hd
       obtain⟨hdeep,hbc⟩:=hd
       simp only[Qy.fzcK,cX3,hA,hrow,hcell,hB] at hk
       intro FF nf hFF lo0 a w Im φ hs R hR
       have hgv:=hs.inv.give (fun x=>Nat.beq x b)
       have hir:=hs.inv.sel (fun x=>Nat.beq x b)
       have hcb:Nat.beq c b=false:=by
        cases hh:Nat.beq c b with
        | false=>rfl
        | true=>rw[Nat.eq_of_beq_eq_true hh,Nat.beq_refl] at hbc;cases hbc
       have hA' :sget (u9 (fun x=> !(Nat.beq x b)) 0 m.st) c=some A:=bz2 hA (by simp only[Nat.zero_add,hcb];rfl)
       have hB' :sget (u9 (fun x=>Nat.beq x b) 0 m.st) b=some B:=bz2 hB (by simp)
       have hf:W3 (u9 (fun x=>Nat.beq x b) 0 m.st) 0 false 6 (.msl b j len lo ex)=some (.sl false B.sz rs):=by
        simp only[W3,Nat.blt,Nat.ble,cond_false,hB',h4,cond_true,hdeep,h5]
       have hw:∀v,i7 w Im φ (.msl b j len lo ex) v→i7 w (fun x=>Im x∨m8 φ (u9 (fun x=>Nat.beq x b) 0 m.st) x) φ (.sl false B.sz rs) v:=fun v hr=>
        ad4 hir (fun x h=> .inl h) (fun b' B' l _ a2 a3 hp=> .inr ⟨b',B',l,a3,a2,rfl,hp⟩) 6 false φ (fun _ b' l hb hl=>hl) _ _ _ (fun _ _ _ _=>trivial) hr hf
       have hw' :∀v,i7 w (fun x=>Im x∨m8 φ (u9 (fun x=>Nat.beq x b) 0 m.st) x) φ (.msl b j len lo ex) v→i7 w (fun x=>Im x∨m8 φ (u9 (fun x=>Nat.beq x b) 0 m.st) x) φ (.sl false B.sz rs) v:=fun v hr=>by
        refine hw v ?_
        cases hr with
        | mnil b i ex l h=>exact .mnil _ _ _ _ h
        | msl b i len lo ex l cap a g1 g2 g3 g4 g5 g6 g7=>exact .msl _ _ _ _ _ _ _ _ g1 g2 g3 g4 g5 g6 g7
       obtain⟨c1,c2⟩:=hgv.1.cell hA' hrow hcell rfl hw'
       exact hk FF nf hFF lo0 a w _ φ ⟨fun s=>(hs.fr s).mono (fun _ h=> .inl h) (fun _ _=>rfl) (l5.refl _),c1,hs.sd.tr hs.m hs.inv (hgv.2.trans c2) c1,hs.sz,hs.m⟩ R (fun e a' w' hd=>hR e a' w' (N5.of_tr ((hgv.2.trans c2).le hs.m) hd))
     ·cases h
    ·cases h
   ·cases h
  ·cases h
 | _=>cases h
/-! ### calls and ends, with weaker data -/
def Qy.callF (ns:List (Option Nat)):Qy→Option (FuncId×List D×i4)
 | .call f args sub _=>(match bp8 ns args with | some a=>some (f,a,sub) | none=>none)
 | .callS f args sub _=>(match bp8 ns args with | some a=>some (f,a,sub) | none=>none)
 | _=>none
def Qy.callDF (ns:List (Option Nat)):Qy→Option (FuncId×List D)
 | .callD f args _=>(match bp8 ns args with | some a=>some (f,a) | none=>none)
 | _=>none
def Qy.retF (l:List Fx):Qy→Option (D×i4)
 | .ret d s=>(match fxs l ([(0,d)],s) with | some x=>some (o5 x.1 0,x.2) | none=>none)
 | _=>none
theorem cn7 {q:Qy} (ns:List (Option Nat)) {f:FuncId}{args:List D}{sub:i4}{d:D}{s:i4} (h:q.callF ns=some (f,args,sub)) (hs:l4 E f args sub fun d' s' =>d' =d∧s' =s) (hk:i6 E C Q (q.callK d s)):i6 E C Q q:=by
 cases q with
 | call f' args' sub' k=>
  simp only[Qy.callF] at h
  split at h
  ·rename_i a ha
   simp only[Option.some.injEq,Prod.mk.injEq] at h
   obtain⟨rfl,rfl,rfl⟩:=h
   exact⟨_,hs.args ha,fun d' s' ⟨e1,e2⟩=>by rw[e1,e2];exact hk⟩
  ·cases h
 | callS f' args' sub' k=>
  simp only[Qy.callF] at h
  split at h
  ·rename_i a ha
   simp only[Option.some.injEq,Prod.mk.injEq] at h
   obtain⟨rfl,rfl,rfl⟩:=h
   exact⟨d,s,hs.args ha,hk⟩
  ·cases h
 | _=>cases h
theorem cF1 {q:Qy} (ns:List (Option Nat)) {f:FuncId}{args:List D}{d:D} (h:q.callDF ns=some (f,args)) (hs:ba9 E f args d) (hk:i6 E C Q (q.callDK d)):i6 E C Q q:=by
 cases q with
 | callD f' args' k=>
  simp only[Qy.callDF] at h
  split at h
  ·rename_i a ha
   simp only[Option.some.injEq,Prod.mk.injEq] at h
   obtain⟨rfl,rfl⟩:=h
   exact⟨d,l4.args ha hs,hk⟩
  ·cases h
 | _=>cases h
theorem aS7 {q:Qy} (l:List Fx) {d:D}{s:i4} (h:q.retF l=some (d,s)) (hf:C.fin) (hq:Q d s):i6 E C (QW Q) q:=by
 cases q with
 | ret d' s' =>
  simp only[Qy.retF] at h
  split at h
  ·rename_i x hx
   simp only[Option.some.injEq,Prod.mk.injEq] at h
   obtain⟨rfl,rfl⟩:=h
   refine⟨hf,_,_,fun k w Im φ v hk hi hr=> ?_,hq⟩
   obtain⟨φ2,b1,b2,b3,b4,b5⟩:=bn8 hx k w Im φ v hk hi hr
   refine⟨φ2,b1,b2,b3,b4,fun t=> ?_⟩
   simp only[o5,Bool.cond_eq_ite]
   split
   ·rename_i ht
    have ht' :=Nat.eq_of_beq_eq_true ht
    subst ht'
    exact b5 0
   ·exact .undef _
  ·cases h
 | _=>cases h
theorem aI7 {f:FuncId}{fn:Func}{args:List D}{σ:i4}{m:M} (hf:E.P.funcs[f]? =some fn) (hst:be5 fn args σ=some m) (h:i6 E (.of fn (E.pol f).keep σ.length) (QW Q) (.go m)):l4 E f args σ Q:=
 l4.res (cI6 hf hst h)
abbrev Is (x d:D) (s:i4):Prop:=d=x∧s= []
/-! ### walks along a plain function's text -/
theorem cN8 {α:Type}{q:Qy}{c:Bool}{A B:Option α}{r:α} (h:(bif c then A else B)=some r) (hq:q.splitB=some c) (ht:c=true→A=some r→i6 E C Q (q.splitK true)) (hf:c=false→B=some r→i6 E C Q (q.splitK false)):i6 E C Q q:=
 cN2 c hq (fun hc=>ht hc (by rw[hc] at h;exact h)) (fun hc=>hf hc (by rw[hc] at h;exact h))
theorem cU5 {α:Type}{q:Qy}{c:Bool}{A:Option α}{r:α} (h:(bif c then A else none)=some r) (hq:q.needB=some c) (hk:c=true→A=some r→i6 E C Q q.needK):i6 E C Q q:=by
 cases c with
 | true=>exact cA1 true hq rfl (hk rfl h)
 | false=>cases h
theorem da1 {α β:Type}{q:Qy}{o:Option β}{F:β→Option α}{r:α} (ro:Option (List D)) (en:β→List D) (h:o.bind F=some r) (hq:q.rowR=some ro) (ho:ro=o.map en) (hk:∀y,o=some y→F y=some r→i6 E C Q (q.rowK (en y))):i6 E C Q q:=by
 cases o with
 | none=>cases h
 | some y=>exact bZ8 ro (en y) hq ho (hk y rfl h)
theorem cT1 {α β:Type}{q:Qy}{o:Option β}{F:β→Option α}{r:α} (ns:List (Option Nat)) {f:FuncId}{args:List D}{sub:i4} (en:β→D) (es:β→i4) (h:o.bind F=some r) (hq:q.callF ns=some (f,args,sub))
  (hs:∀y,o=some y→l4 E f args sub fun d s=>d=en y∧s=es y) (hk:∀y,o=some y→F y=some r→i6 E C Q (q.callK (en y) (es y))):i6 E C Q q:=by
 cases o with
 | none=>cases h
 | some y=>exact cn7 ns hq (hs y rfl) (hk y rfl h)
theorem cN6 {α β:Type}{q:Qy}{o:Option β}{F:β→Option α}{r:α} (ns:List (Option Nat)) {f:FuncId}{args:List D} (en:β→D) (h:o.bind F=some r) (hq:q.callDF ns=some (f,args))
  (hs:∀y,o=some y→l4 E f args [] fun d s=>d=en y∧s= []) (hk:∀y,o=some y→F y=some r→i6 E C Q (q.callDK (en y))):i6 E C Q q:=by
 cases o with
 | none=>cases h
 | some y=>exact cF1 ns hq (hs y rfl) (hk y rfl h)
/-! ### ranges over a function -/
theorem cL7 {q:Qy}{l:Nat}{y:List D}{s:i4}{Y:List (List D)} (h:q.yldA=some (l,y,s)) (hit:C.it=true) (hrb:C.rb=false) (hl:C.lp=l) (hln:U6 C.ln s) (hY:C.Y=some (y::Y)) (ht:i6 E (C.tell (some Y)) Q (q.yldK true)) (hf:i6 E (C.tell none) Q (q.yldK false)):i6 E C Q q:=by
 cases q<;>simp[Qy.yldA] at h
 obtain⟨rfl,rfl,rfl⟩:=h
 exact⟨hit,hrb,hl,hln,Y,hY,ht,hf⟩
theorem cK9 {q:Qy}{m:Nat}{g:FuncId}{caps:List D}{sub σ:i4}{ids:List Nat} (h:q.rngA=some (m,g,caps,sub,σ,ids)) {Y:List (List D)} (hb:ids= []∨C6 (tr (M8 (au6 ids σ.length)) l8) sub=some (x7 σ ids)) (hs:av1 E g caps sub (bif ids.isEmpty then [] else sub) Y)
  (hk:Rng (fun s=>x7 s ids=x7 σ ids) (fun y s q' =>i6 E (C.round m) (QW q') (q.rngR y s)) (fun n s=>i6 E C Q (q.rngK n s)) Y σ):i6 E C Q q:=by
 cases q<;>simp[Qy.rngA] at h
 obtain⟨rfl,rfl,rfl,rfl,rfl,rfl⟩:=h
 exact⟨hb,Y,hs,hk⟩
/-! ### rounds: what a step function comes to -/
inductive Ev {S R:Type} (step:S→Option (S⊕R)):S→R→Prop
 | done {s:S}{r:R}:step s=some (.inr r)→Ev step s r
 | next {s s' :S}{r:R}:step s=some (.inl s')→Ev step s' r→Ev step s r
end
open Go.ChangeShapes Go.WideShapes
/-! ### what plain data are -/
section
variable (P : Program)
def bs5 (pf:TypeId→Bool):Nat→List Field→Option Nat
 | off,[]=>some off
 | off,f::r=>bif Nat.beq f.offset off&&pf f.type then bs5 pf (off+P.cellsOf f.type) r else none
def aM0:Nat→TypeId→Bool
 | 0,_=>false
 | n+1,t=>match P.underlying t with
  | some .bool | some (.int _) | some .string=>P.cellsOf t==1
  | some (.struct fs)=>bs5 P (aM0 n) 0 fs.toList==some (P.cellsOf t)
  | some (.array m e)=>aM0 n e&&P.cellsOf t==m*P.cellsOf e
  | some (.slice e)=>aM0 n e&&(P.cellsOf t==1&&Nat.ble 1 (P.cellsOf e))
  | _=>false
def wtL (wt:TypeId→List D→Prop):List TypeId→List D→Prop
 | [],ds=>ds= []
 | t::r,ds=>∃a b,ds=a++b∧wt t a∧wtL wt r b
def wtF:Nat→TypeId→List D→Prop
 | 0,_,_=>False
 | n+1,t,ds=>match P.underlying t with
  | some .bool=>∃b,ds= [.bool b]
  | some (.int k)=>∃m,ds= [.int k m]∧k.min≤m∧m≤k.max
  | some .string=>∃s,ds= [.str s]∧s.length≤reachBytes
  | some (.struct fs)=>wtL (wtF n) (fs.toList.map (·.type)) ds
  | some (.array m e)=>wtL (wtF n) (List.replicate m e) ds
  | some (.slice e)=>∃rows,ds= [.sl false (P.cellsOf e) rows]∧rows.length*P.bytesOf e≤reachBytes∧∀r∈rows,wtF n e r
  | _=>False
def cr6 (t:TypeId):Bool:=match P.underlying t with
 | some .bool | some (.int _) | some .string | some (.struct _) | some (.array _ _) | some (.slice _)=>aM0 P 6 t
 | _=>false
def wtP (t:TypeId) (d:D):Prop:=match P.underlying t with
 | some (.struct _) | some (.array _ _)=>∃cs,d=.agg cs∧wtF P 6 t cs
 | _=>wtF P 6 t [d]
def wtA:List TypeId→List D→Prop
 | [],ds=>ds= []
 | t::r,ds=>∃d ds',ds=d::ds' ∧wtP P t d∧wtA r ds'
end
section
variable {P : Program} {w : World} {Im : Nat → Prop} {H : Type} {enc : TypeId × Value → H} {base : Nat} {spare : Nat → Bool} {held : Bool}
def CR (w:World) (Im:Nat→Prop) (ds:List D) (cs:List Value):Prop:=
 ds.length=cs.length∧ds.all t9=true∧∀(i:Nat) (d:D) (v:Value),ds[i]? =some d→cs[i]? =some v→i7 w Im [] d v
theorem CR.nil:CR w Im [] []:=⟨rfl,rfl,fun i d v h=>by simp at h⟩
theorem CR.one {d:D}{v:Value} (h:i7 w Im [] d v) (hs:t9 d=true):CR w Im [d] [v]:=
 ⟨rfl,by simp[hs],fun i d' v' h1 h2=>by cases i<;>simp at h1 h2;subst h1;subst h2;exact h⟩
theorem CR.append {a b:List D}{cs es:List Value} (h:CR w Im a cs) (k:CR w Im b es):CR w Im (a++b) (cs++es):=by
 refine⟨by simp[h.1,k.1],by rw[List.all_append,h.2.1,k.2.1];rfl,fun i d v h1 h2=> ?_⟩
 rcases Nat.lt_or_ge i a.length with hlt | hge
 ·rw[List.getElem?_append_left hlt] at h1
  rw[List.getElem?_append_left (by rw[←h.1];exact hlt)] at h2
  exact h.2.2 i d v h1 h2
 ·rw[List.getElem?_append_right hge] at h1
  rw[List.getElem?_append_right (by rw[←h.1];exact hge),←h.1] at h2
  exact k.2.2 _ d v h1 h2
theorem aW8 {e:TypeId}:∀{l:List (DataW H)}{d:DataW H}{n:Nat},d∈l→n∈d.weights P e→n∈DataW.weightsAll P e l
 | x::l,d,n,hd,hn=>by
  simp only[DataW.weightsAll,List.mem_append]
  rcases List.mem_cons.1 hd with rfl | hd
  ·exact .inl hn
  ·exact .inr (aW8 hd hn)
theorem cy8 {k:IntKind}{n:Int} (h:(Lit.int k n).wf=true):k.min≤n∧n≤k.max:=by
 simpa[Lit.wf] using h
theorem cn6 {α:Type}{p:Nat→α→Prop}:∀(n:Nat),(∀i,i<n→∃x,p i x)→∃l:List α,l.length=n∧∀i x,l[i]? =some x→p i x
 | 0,_=>⟨[],rfl,fun i x h=>by simp at h⟩
 | n+1,h=>by
  obtain⟨l,h1,h2⟩:=cn6 n fun i hi=>h i (by omega)
  obtain⟨x,hx⟩:=h n (by omega)
  refine⟨l++ [x],by simp[h1],fun i y hy=> ?_⟩
  rcases Nat.lt_or_ge i l.length with hlt | hge
  ·rw[List.getElem?_append_left hlt] at hy;exact h2 i y hy
  ·rw[List.getElem?_append_right hge] at hy
   have:i-l.length=0:=by have:=(List.getElem?_eq_some_iff.1 hy).1;simpa using this
   rw[this] at hy
   simp at hy
   subst hy
   have:i=n:=by omega
   rw[this];exact hx
theorem ab9 (hIm:∀c,c<w.heap.size→Im c):∀(n:Nat) (fuel:Nat) (t:TypeId) (cs:List Value) (x:DataW H×List MemPlace),aM0 P n t=true→DataW.trod enc P w base spare held fuel t cs=some x→
  (∀m∈x.1.weights P t,m≤reachBytes)→∃ds,CR w Im ds cs∧wtF P n t ds∧cs.length=P.cellsOf t
 | 0,_,_,_,_,h,_,_=>by simp[aM0] at h
 | n+1,fuel,t,cs,x,h,hx,hw=>by
  simp only[aM0] at h
  simp only[wtF]
  split at h
  ·rename_i hu
   obtain⟨b,rfl,rfl⟩:=DataW.trod_bool hu hx
   exact⟨[.bool b],.one (.bool b) rfl,⟨b,rfl⟩,by simpa using(eq_of_beq h).symm⟩
  ·rename_i k hu
   obtain⟨m,rfl,rfl,hwf⟩:=DataW.trod_int hu hx
   exact⟨[.int k m],.one (.int k m) rfl,⟨m,rfl,cy8 hwf⟩,by simpa using(eq_of_beq h).symm⟩
  ·rename_i hu
   obtain⟨s,rfl,rfl,_⟩:=DataW.trod_string hu hx
   exact⟨[.str s.data.toList],.one (.str s _ rfl) rfl,⟨_,rfl,hw _ (by simp[DataW.weights])⟩,by simpa using(eq_of_beq h).symm⟩
  ·rename_i fs hu
   obtain⟨xs,m,rfl,rfl,hlen,hxl,hget⟩:=DataW.trod_struct hu hx
   simp only[DataW.weights,hu] at hw
   have key:∀(l:List Field) (k off:Nat),fs.toList.drop k=l→bs5 P (aM0 P n) off l=some cs.length→
     ∃ds,CR w Im ds (cs.drop off)∧wtL (wtF P n) (l.map (·.type)) ds:=by
    intro l
    induction l with
    | nil=>
     intro k off _ ht
     simp only[bs5,Option.some.injEq] at ht
     subst ht
     exact⟨[],by simpa using CR.nil,rfl⟩
    | cons f l ih=>
     intro k off hk ht
     simp only[bs5,Bool.cond_eq_ite] at ht
     split at ht
     ·rename_i hc
      simp only[Bool.and_eq_true] at hc
      have hoff:=Nat.eq_of_beq_eq_true hc.1
      have hfk:fs[k]? =some f:=by
       have:(fs.toList.drop k)[0]? =some f:=by rw[hk];rfl
       simpa using this
      have hg:=hget k f hfk
      have hklt:k<xs.length:=by rw[hxl];exact(Array.getElem?_eq_some_iff.1 hfk).1
      have hxk:xs[k]? =some xs[k]:=by simp[hklt]
      rw[hxk,hoff] at hg
      obtain⟨a,h1,h2,h3⟩:=ab9 hIm n m f.type _ _ hc.2 hg (fun q hq=>hw q (DataW.weights_mem_each (j:=k) (t:=f.type) (d:=xs[k].1) (by simp[hfk]) (by simp[hxk]) q hq))
      obtain⟨b,k1,k2⟩:=ih (k+1) (off+P.cellsOf f.type) (by rw[←List.drop_drop,hk];rfl) ht
      refine⟨a++b,?_,a,b,rfl,h2,k2⟩
      have:=h1.append k1
      rwa [←List.drop_drop,List.take_append_drop] at this
     ·cases ht
   have ht:bs5 P (aM0 P n) 0 fs.toList=some cs.length:=by rw[hlen];exact eq_of_beq h
   obtain⟨ds,h1,h2⟩:=key fs.toList 0 0 rfl ht
   exact⟨ds,by simpa using h1,h2,hlen⟩
  ·rename_i m e hu
   simp only[Bool.and_eq_true] at h
   obtain⟨xs,m',rfl,rfl,hlen,hxl,hget⟩:=DataW.trod_array hu hx
   simp only[DataW.weights,hu] at hw
   have hsz:=eq_of_beq h.2
   have key:∀(r k:Nat),k+r=m→∃ds,CR w Im ds (cs.drop (k*P.cellsOf e))∧wtL (wtF P n) (List.replicate r e) ds:=by
    intro r
    induction r with
    | zero=>
     intro k hk
     refine⟨[],?_,rfl⟩
     rw[List.drop_eq_nil_of_le (by rw[hlen,hsz,←hk];simp)]
     exact CR.nil
    | succ r ih=>
     intro k hk
     have hg:=hget k (by omega)
     have hklt:k<xs.length:=by omega
     have hxk:xs[k]? =some xs[k]:=by simp[hklt]
     rw[hxk] at hg
     obtain⟨a,h1,h2,h3⟩:=ab9 hIm n m' e _ _ h.1 hg (fun q hq=>hw q (aW8 (List.mem_map.2 ⟨xs[k],List.getElem_mem hklt,rfl⟩) hq))
     obtain⟨b,k1,k2⟩:=ih (k+1) (by omega)
     refine⟨a++b,?_,a,b,rfl,h2,k2⟩
     have:=h1.append k1
     rwa [Nat.add_mul,Nat.one_mul,←List.drop_drop,List.take_append_drop] at this
   obtain⟨ds,h1,h2⟩:=key m 0 (by omega)
   exact⟨ds,by simpa using h1,h2,hlen⟩
  ·rename_i e hu
   simp only[Bool.and_eq_true] at h
   obtain⟨hfe,hsz1,hble⟩:=h
   have hpos:=Nat.le_of_ble_eq_true hble
   have hsz1' :=(eq_of_beq hsz1)
   rcases DataW.trod_slice hu hx with⟨rfl,rfl⟩ | ⟨a,len,cap,elems,rest,m,rfl,rfl,rfl,_,hlc,hm,hel,hget,hsp,_⟩
   ·exact⟨[.sl false (P.cellsOf e) []],.one (.nilsl2 _) rfl,⟨[],rfl,by simp,fun r hr=>by simp at hr⟩,by simpa using hsz1'.symm⟩
   ·simp only[DataW.weights,hu] at hw
    have each:∀i,i<elems.length→∃r:List D,(∃cs,w.cells? base (a.add (i*P.cellsOf e)) (P.cellsOf e)=some cs∧CR w Im r cs)∧wtF P n e r∧r.length=P.cellsOf e:=by
     intro i hi
     have hg:=hget i (by omega)
     have hxi:elems[i]? =some elems[i]:=by simp[hi]
     rw[hxi,Option.bind_eq_some_iff] at hg
     obtain⟨cs,h1,h2⟩:=hg
     obtain⟨r,k1,k2,k3⟩:=ab9 hIm n m e cs _ hfe h2 (fun m hm=>hw m (by
      simp only[List.mem_cons,List.mem_append]
      exact .inr (.inl (aW8 (List.mem_map.2 ⟨elems[i],List.getElem_mem hi,rfl⟩) hm))))
     exact⟨r,⟨cs,h1,k1⟩,k2,by rw[k1.1,k3]⟩
    obtain⟨rows,r1,r2⟩:=cn6 elems.length each
    have first:rows≠ []→a.spot=none∧a.block<w.heap.size:=fun hne=>by
     have h0:0<rows.length:=List.length_pos_iff.2 hne
     obtain⟨⟨cs,c1,_⟩,_,c3⟩:=r2 0 rows[0] (by simp[h0])
     obtain⟨_,s1,s2⟩:=World.cells?_some c1
     have h1:=s2 0 (by omega)
     simp only[Nat.zero_mul] at h1
     have h2:(a.add 0).add 0=a:=by simp[Addr.add]
     rw[h2] at h1
     have hv:cs[0]? =some (cs[0]'(by omega)):=by simp
     rw[hv] at h1
     have hspot:=World.cell?_spot h1
     refine⟨hspot,?_⟩
     have:=World.cells?_block c1 (by omega)
     simp only[Addr.add] at this
     split at this<;>exact this
    have hrow:rows≠ []→H0 w Im [] a.block a.off (P.cellsOf e) rows:=fun hne=>by
     refine⟨fun r hr=> ?_,fun i j r x e1 e2=> ?_⟩
     ·obtain⟨i,hi⟩:=List.mem_iff_getElem?.1 hr
      obtain⟨⟨cs,c1,c2⟩,_,c3⟩:=r2 i r hi
      exact⟨c3,c2.2.1⟩
     ·obtain⟨⟨cs,c1,c2⟩,_,c3⟩:=r2 i r e1
      obtain⟨_,s1,s2⟩:=World.cells?_some c1
      have hj:j<P.cellsOf e:=by have:=(List.getElem?_eq_some_iff.1 e2).1;omega
      have hv:cs[j]? =some (cs[j]'(by omega)):=by simp
      have:=s2 j hj
      rw[hv] at this
      refine⟨cs[j]'(by omega),?_,c2.2.2 j x _ e2 hv⟩
      rw[←this]
      congr 1
      have q:=(first hne).1
      obtain⟨ab,ao,asp⟩:=a
      simp only at q
      subst q
      unfold Addr.add
      split<;>split<;>simp_all<;>omega
    have hlen:rows.length=len:=by rw[r1,hel]
    refine⟨[.sl false (P.cellsOf e) rows],.one ?_ rfl,⟨rows,rfl,?_,fun r hr=> ?_⟩,by simpa using hsz1'.symm⟩
    ·by_cases hne:rows= []
     ·subst hne
      simp only[List.length_nil] at hlen
      subst hlen
      exact .sl _ [] 0 0 cap (fun _ _=>undef) a (by simp) (by simp) (by simp) (by simp) (by simp) (by simp)
     ·obtain⟨q1,q2⟩:=first hne
      have:=(hrow hne).sl (φ:= []) (fun _=>hIm _ q2) (cap:=cap) (by omega)
      obtain⟨ab,ao,asp⟩:=a
      simp only at q1
      subst q1
      rw[←hlen];exact this
    ·have:=hw ((elems.map (·.1)).length*P.bytesOf e+(rest.map (·.1)).length*P.bytesOf e) (by simp[Nat.add_mul])
     rw[r1]
     simp at this
     exact Nat.le_trans (Nat.le_add_right _ _) this
    ·obtain⟨i,hi⟩:=List.mem_iff_getElem?.1 hr
     exact(r2 i r hi).2.1
  ·cases h
def Old (w:World) (c:Nat):Prop:=c<w.heap.size
theorem cJ2 {t:TypeId}{v:Value}{d:DataW H}{ps:List MemPlace}{b0:Nat} (hp:cr6 P t=true) (hok:Value.okWide P w .any b0 t v) (h:DataW.Trod enc P w 0 (fun _=>true) true t v d ps)
  (hw:∀m∈d.weights P t,m≤reachBytes):∃x,i7 w (Old w) [] x v∧wtP P t x:=by
 obtain⟨fuel,h⟩:=h
 simp only[cr6] at hp
 split at hp
 rotate_right
 ·cases hp
 all_goals
  rename_i hu
  simp only[wtP,hu]
 ·obtain⟨b,rfl⟩:=okWide_bool hu hok
  obtain⟨ds,h1,h2,_⟩:=ab9 (Im:=Old w) (fun _ h=>h) 6 fuel t _ _ hp h hw
  have:ds= [.bool b]:=by
   simp only[wtF,hu] at h2
   obtain⟨b',rfl⟩:=h2
   have:=h1.2.2 0 _ _ rfl (show(Value.cells _).toList[0]? =some _ from rfl)
   cases this;rfl
  subst this
  exact⟨.bool b,.bool b,h2⟩
 ·rename_i k
  obtain⟨b,rfl⟩:=okWide_int hu hok
  obtain⟨ds,h1,h2,_⟩:=ab9 (Im:=Old w) (fun _ h=>h) 6 fuel t _ _ hp h hw
  have:ds= [.int k b]:=by
   simp only[wtF,hu] at h2
   obtain⟨b',rfl,_⟩:=h2
   have:=h1.2.2 0 _ _ rfl (show(Value.cells _).toList[0]? =some _ from rfl)
   cases this;rfl
  subst this
  exact⟨.int k b,.int k b,h2⟩
 ·obtain⟨b,rfl⟩:=okWide_string hu hok
  obtain⟨ds,h1,h2,_⟩:=ab9 (Im:=Old w) (fun _ h=>h) 6 fuel t _ _ hp h hw
  have:ds= [.str b.data.toList]:=by
   simp only[wtF,hu] at h2
   obtain⟨b',rfl,_⟩:=h2
   have:=h1.2.2 0 _ _ rfl (show(Value.cells _).toList[0]? =some _ from rfl)
   cases this with | str s l e=>rw[e]
  subst this
  exact⟨.str _,.str b _ rfl,h2⟩
 ·obtain⟨cs,rfl,_⟩:=okWide_struct hu hok
  obtain⟨ds,h1,h2,_⟩:=ab9 (Im:=Old w) (fun _ h=>h) 6 fuel t _ _ hp h hw
  exact⟨.agg ds,.agg ds cs (by simpa[Value.cells] using h1.1) (fun i d v a b=>h1.2.2 i d v a (by simpa[Value.cells] using b)),ds,rfl,h2⟩
 ·simp only[Value.okWide,hu] at hok
  obtain⟨cs,rfl,_,_⟩:=hok
  obtain⟨ds,h1,h2,_⟩:=ab9 (Im:=Old w) (fun _ h=>h) 6 fuel t _ _ hp h hw
  exact⟨.agg ds,.agg ds cs (by simpa[Value.cells] using h1.1) (fun i d v a b=>h1.2.2 i d v a (by simpa[Value.cells] using b)),ds,rfl,h2⟩
 ·rename_i e
  obtain⟨a0,len,cap,rfl⟩:=okWide_slice hu hok
  obtain⟨ds,h1,h2,_⟩:=ab9 (Im:=Old w) (fun _ h=>h) 6 fuel t _ _ hp h hw
  have h2' :=h2
  simp only[wtF,hu] at h2'
  obtain⟨rows,rfl,h3,h4⟩:=h2'
  exact⟨_,h1.2.2 0 _ _ rfl (show(Value.cells _).toList[0]? =some _ from rfl),h2⟩
theorem bU4:∀{ts:List TypeId}{vs:List Value}{ds:List (DataW H)}{ps:List MemPlace}{b0:Nat},ts.all (cr6 P)=true→(∀(j:Nat) t v,ts[j]? =some t→vs[j]? =some v→Value.okWide P w .any b0 t v)→
  DataW.TrodAll enc P w 0 (fun _=>true) true ts vs ds ps→(∀m∈DataW.weightsEach P ts ds,m≤reachBytes)→∃xs,E3 w (Old w) [] xs vs∧wtA P ts xs
 | [],vs,ds,ps,b0,_,_,h,_=>by
  obtain⟨rfl,rfl,rfl⟩:=trodAll_nil h
  exact⟨[],⟨rfl,fun i d v h=>by simp at h⟩,rfl⟩
 | t::ts,vs,ds,ps,b0,hp,hok,h,hw=>by
  obtain⟨v,vs',d,ds',p,q,rfl,rfl,rfl,h1,h2⟩:=trodAll_cons h
  simp only[List.all_cons,Bool.and_eq_true] at hp
  simp only[DataW.weightsEach,List.mem_append] at hw
  obtain⟨x,x1,x2⟩:=cJ2 hp.1 (hok 0 t v rfl rfl) h1 fun m hm=>hw m (.inl hm)
  obtain⟨xs,y1,y2⟩:=bU4 hp.2 (fun j t' v' a b=>hok (j+1) t' v' a b) h2 fun m hm=>hw m (.inr hm)
  refine⟨x::xs,⟨by simp[y1.1],fun i d' v' a b=> ?_⟩,x,xs,rfl,x2,y2⟩
  cases i with
  | zero=>simp at a b;subst a;subst b;exact x1
  | succ i=>exact y1.2 i d' v' (by simpa using a) (by simpa using b)
theorem bG6 (hl:laidOutB P=true) {W W' :World} (hb:Below W.heap.size W W'):∀{ts:List TypeId}{vs:List Value}{ds:List (DataW H)}{ps:List MemPlace},(ts.all fun t=>P.readableRec t&&decide (t<P.types.size))=true→
  DataW.TrodAll enc P W 0 (fun _=>true) true ts vs ds ps→DataW.TrodAll enc P W' 0 (fun b=>decide (b<W.heap.size)) true ts vs ds ps
 | [],vs,ds,ps,_,h=>by
  obtain⟨rfl,rfl,rfl⟩:=trodAll_nil h
  exact trodAll_mk0
 | t::ts,vs,ds,ps,hr,h=>by
  obtain⟨v,vs',d,ds',p,q,rfl,rfl,rfl,h1,h2⟩:=trodAll_cons h
  simp only[List.all_cons,Bool.and_eq_true,decide_eq_true_eq] at hr
  have lt:∀x∈p,x.block<W.heap.size:=by obtain⟨m,hm⟩:=h1;exact DataW.trod_lt m _ _ _ hm
  exact trodAll_cons_mk (Below.trod hl hr.1.1 hr.1.2 h1 hb lt) (bG6 hl hb hr.2 h2)
theorem law_calls {E:E7}{f:FuncId}{ts:List TypeId}{W:World}{vs:Array Value}{ds:List (DataW H)}{ps:List MemPlace}{b0:Nat} (hgl:GlOk E W (Old W)) (hl:laidOutB E.P=true) (hr:(ts.all fun t=>E.P.readableRec t&&decide (t<E.P.types.size))=true)
  (hp:ts.all (cr6 E.P)=true) (hok:∀(j:Nat) t v,ts[j]? =some t→vs.toList[j]? =some v→Value.okWide E.P W .any b0 t v)
  (hA:DataW.TrodAll enc E.P W 0 (fun _=>true) true ts vs.toList ds ps) (hw:(DataW.weightsEach E.P ts ds).all (· ≤reachBytes)=true)
  (hs:∀xs,wtA E.P ts xs→l4 E f xs [] fun d _=>d=.bool true):
  Calls E.P f vs W fun e W' =>e=.returned (.bool true)∧Below W.heap.size W W' ∧DataW.TrodAll enc E.P W' 0 (fun b=>decide (b<W.heap.size)) true ts vs.toList ds ps:=by
 obtain⟨xs,h1,h2⟩:=bU4 hp hok hA (fun m hm=>by simpa using List.all_eq_true.1 hw m hm)
 refine(hs xs h2 W (Old W) [] vs hgl (Inv.nil fun c hc=>hc) h1).mono ?_
 rintro e W' ⟨v,d,σ',φ',Im',rfl,ht,_,hr',rfl⟩
 have hv:=hr'.bool_inv
 subst hv
 have hb:Below W.heap.size W W' :=⟨ht.ext.io.1,ht.ext.io.2.1,ht.ext.io.2.2,ht.ext.size,fun k hk=>ht.ext.same k hk (ap4 k)⟩
 exact⟨rfl,hb,bG6 hl hb hr hA⟩
end
def r4:Code→List Nat→Code
 | c,[]=>c
 | .seq a b,i::r=>bif Nat.beq i 0 then r4 a r else r4 b r
 | .cond _ a b,i::r=>bif Nat.beq i 0 then r4 a r else r4 b r
 | .block _ a,_::r=>r4 a r
 | .loop a,_::r=>r4 a r
 | .scope a,_::r=>r4 a r
 | .rangeFunc _ _ a b,i::r=>bif Nat.beq i 0 then r4 a r else r4 b r
 | c,_=>c
def r9 (f:Func):Code:=match f.body with | some c=>c | none=> .skip
/-! ### encodings -/
def d7 (k:IntKind) (n:Int):List D:= [.int k n]
def D1 {α:Type} (sz:Nat) (en:α→List D) (l:List α):List D:= [.sl false sz (l.map en)]
/-! ### integers -/
def k9 (k:IntKind) (x y:Int):Int:=k.wrap ((BitVec.ofInt k.bits x&&&BitVec.ofInt k.bits y).toNat:Int)
def orI (k:IntKind) (x y:Int):Int:=k.wrap ((BitVec.ofInt k.bits x ||| BitVec.ofInt k.bits y).toNat:Int)
def L0 (k:IntKind) (x y:Int):Int:=k.wrap ((BitVec.ofInt k.bits x^^^BitVec.ofInt k.bits y).toNat:Int)
def Y7 (k:IntKind) (x y:Int):Int:=k.wrap (x*2^(min y.toNat k.bits))
def n6 (k:IntKind) (x y:Int):Int:=x.fdiv (2^(min y.toNat k.bits))
def z0 (x y:Int):Int:=if y<x then y else x
def C9 (x y:Int):Int:=if x<y then y else x
/-! ### rows -/
theorem F9 {α:Type} (l:List α):List.take l.length (List.drop 0 l)=l:=by simp
theorem Q6 {α:Type} (l:List α):List.take l.length l=l:=by simp
theorem cI9 {α:Type} (en:α→List D) (l xs:List α):List.take (l.map en).length (List.drop 0 (l.map en))++xs.map en=(l++xs).map en:=by rw[List.drop_zero,List.take_length,List.map_append]
theorem bA9 {α:Type} (en:α→List D) (l:List α) (lo hi:Nat):((l.map en).take hi).drop lo=((l.take hi).drop lo).map en:=by simp[List.map_take,List.map_drop]
theorem bz7 {α:Type} (en:α→List D) (l:List α) (i:Nat) (x:α):(l.map en).set i (en x)=(l.set i x).map en:=by rw[List.map_set]
theorem cG2 {α:Type} (en:α→List D) (n:Nat) (x:α):List.replicate n (en x)=(List.replicate n x).map en:=by rw[List.map_replicate]
def b8 (n:Int):UInt8:=UInt8.ofNat n.toNat
theorem C8 (n:Nat):Nat.ble (0+n) n=true:=by simp
section
variable {E : E7} {C : Cx} {Q : D → i4 → Prop}
theorem aB5 {q:Qy} (ns:List Fx) {d1 d:D}{s1 s:i4} (h:q.retF ns=some (d1,s1)) (he:d1=d∧s1=s) (hq:Q d s) (hf:C.fin:=by intro h;cases h):i6 E C (QW Q) q:=by
 obtain⟨rfl,rfl⟩:=he
 exact aS7 ns h hf hq
theorem aB1 {n1 n2:Nat} (f:Nat→Qy) (e:n1=n2) (h:i6 E C Q (f n2)):i6 E C Q (f n1):=by rw[e];exact h
theorem cM4 {q:Qy}{b:Bool} (h:q.needB=some b) (hb:b=true) (hk:i6 E C Q q.needK):i6 E C Q q:=cA1 b h hb hk
def aG6 (E:E7) (C:Cx) {S R:Type} (Q:R→D→i4→Prop) (I6:S→M) (r:R):S⊕R→Prop
 | .inl s=>i6 E C (QW (Q r)) (.go (I6 s))
 | .inr r' =>r' =r
theorem cW5 {S R:Type}{Q:R→D→i4→Prop}{I6:S→M}{step:S→Option (S⊕R)}
  (hs:∀(s:S) (x:S⊕R) (r:R),step s=some x→aG6 E C Q I6 r x→i6 E C (QW (Q r)) (.go (I6 s))):∀{s:S}{r:R},Ev step s r→i6 E C (QW (Q r)) (.go (I6 s)):=fun h=>by
 induction h with
 | done h=>exact hs _ _ _ h rfl
 | next h _ ih=>exact hs _ _ _ h ih
end
/-! ### what a step function comes to, as a function -/
open Classical in
noncomputable def evf {S R:Type} (step:S→Option (S⊕R)) (s:S):Option R:=if h:∃r,Ev step s r then some (Classical.choose h) else none
theorem bG0 {S R:Type}{step:S→Option (S⊕R)}{s:S}{r:R} (h:evf step s=some r):Ev step s r:=by
 unfold evf at h
 split at h
 ·rename_i hh
  obtain rfl:=Option.some.inj h
  exact Classical.choose_spec hh
 ·cases h
theorem Ev.det {S R:Type}{step:S→Option (S⊕R)}{s:S}{r r' :R} (h:Ev step s r) (h' :Ev step s r'):r=r' :=by
 induction h with
 | done h=>
  cases h' with
  | done h2=>rw[h] at h2;simpa using h2
  | next h2 _=>rw[h] at h2;simp at h2
 | next h _ ih=>
  cases h' with
  | done h2=>rw[h] at h2;simp at h2
  | next h2 h3=>
   rw[h] at h2
   simp only[Option.some.injEq,Sum.inl.injEq] at h2
   subst h2
   exact ih h3
theorem D7 {S R:Type}{step:S→Option (S⊕R)}{s:S}{r:R} (h:Ev step s r):evf step s=some r:=by
 unfold evf
 have hh:∃r,Ev step s r:=⟨r,h⟩
 rw[dif_pos hh,(Classical.choose_spec hh).det h]
/-! ### arguments, read -/
def n9 (k:IntKind) (n:Int):Prop:=k.min≤n∧n≤k.max
section
variable {P : Program} {t : TypeId} {n : Nat} {ds : List D}
theorem cx9 {k:IntKind} (hu:P.underlying t=some (.int k)) (h:wtF P (n+1) t ds):∃m,ds= [.int k m]∧n9 k m:=by
 simp only[wtF,hu] at h
 exact h
variable (P t) in
def bD1:Option (List TypeId):=match P.underlying t with | some (.struct fs)=>some (fs.toList.map (·.type)) | _=>none
variable (P t) in
def cb6:Option TypeId:=match P.underlying t with | some (.slice e)=>some e | _=>none
theorem cD2 {ts:List TypeId} (hu:bD1 P t=some ts) (h:wtF P (n+1) t ds):wtL (wtF P n) ts ds:=by
 unfold bD1 at hu
 split at hu
 ·rename_i fs hf
  simp only[wtF,hf] at h
  obtain rfl:=Option.some.inj hu
  exact h
 ·cases hu
theorem cG0 {e:TypeId}{sz by_:Nat} (hu:cb6 P t=some e) (hs:P.cellsOf e=sz) (hb:P.bytesOf e=by_) (h:wtF P (n+1) t ds):∃rows,ds= [.sl false sz rows]∧rows.length*by_≤reachBytes∧∀r∈rows,wtF P n e r:=by
 unfold cb6 at hu
 split at hu
 ·rename_i fs hf
  simp only[wtF,hf] at h
  obtain rfl:=Option.some.inj hu
  rw[hs,hb] at h
  exact h
 ·cases hu
theorem cm0 {α:Type}{en:α→List D}{Ok:α→Prop}{e:TypeId} (of:∀r,wtF P n e r→∃x,r=en x∧Ok x):∀(rows:List (List D)),(∀r∈rows,wtF P n e r)→∃l:List α,rows=l.map en∧∀x∈l,Ok x
 | [],_=>⟨[],rfl,fun x h=>by simp at h⟩
 | r::rows,h=>by
  obtain⟨x,rfl,h1⟩:=of r (h r (by simp))
  obtain⟨l,rfl,h2⟩:=cm0 of rows fun r hr=>h r (by simp[hr])
  exact⟨x::l,rfl,fun y hy=>by rcases List.mem_cons.1 hy with rfl | hy;exact h1;exact h2 y hy⟩
theorem bf4 {wt:TypeId→List D→Prop}{r:List TypeId} (h:wtL wt (t::r) ds):∃a b,ds=a++b∧wt t a∧wtL wt r b:=h
theorem cS2 {wt:TypeId→List D→Prop} (h:wtL wt [] ds):ds= []:=h
variable (P t) in
def cx3:Bool:=match P.underlying t with | some (.struct _) | some (.array _ _)=>true | _=>false
theorem cE0 {d:D} (hu:cx3 P t=false) (h:wtP P t d):wtF P 6 t [d]:=by
 unfold cx3 at hu
 unfold wtP at h
 split at h
 ·rename_i hf;simp[hf] at hu
 ·rename_i hf;simp[hf] at hu
 ·exact h
theorem cJ1 {r:List TypeId}{ds:List D} (h:wtA P (t::r) ds):∃d ds',ds=d::ds' ∧wtP P t d∧wtA P r ds' :=h
theorem cS1 {ds:List D} (h:wtA P [] ds):ds= []:=h
end
def cs7:Code→Array Nat
 | .rangeFunc _ ps _ _=>ps
 | _=> #[]
def rfA:Code→Code
 | .rangeFunc _ _ a _=>a
 | _=> .skip
def rfB:Code→Code
 | .rangeFunc _ _ _ b=>b
 | _=> .skip
theorem Cx.fin_of {fn:Func}{k:Bool}{m:Nat}:(Cx.of fn k m).fin:=fun h=>by cases h
theorem Cx.fin_round {C:Cx}{m:Nat}:(C.round m).fin:=fun h=>by cases h
section
variable {E : E7} {C : Cx} {Q : D → i4 → Prop}
def af0 (E:E7) (C:Cx) (Q:D→i4→Prop) (m:Nat) (c:Code) (t:List It) (fr:Fr) (ids:List Nat) (bs:i4) (Y:List (List D)) (σ:i4):Prop:=
 Rng (fun s=>x7 s ids=bs) (fun y s q' =>i6 E (C.round m) (QW q') (bg4 E C.fn.ntmps (cs7 c) (rfA c) (rfB c) fr y s)) (fun n s=>i6 E C Q (bl5 t fr n s)) Y σ
def cX6 (E:E7) (C:Cx) (Q:D→i4→Prop) (m:Nat) (c:Code) (t:List It) (fr:Fr) (ids:List Nat) (bs:i4) (Y:List (List D)) (d:D) (s:i4):Prop:=
 x7 s ids=bs∧((d=.int .i64 0∧af0 E C Q m c t fr ids bs Y s)∨∃n:Nat,n≠0∧d=.int .i64 (n:Int)∧i6 E C Q (bl5 t fr n s))
variable {m : Nat} {c : Code} {t : List It} {fr : Fr} {ids : List Nat} {bs : i4} {Y : List (List D)} {σ : i4}
theorem bP3 (h:i6 E C Q (.go ⟨t,fr,σ⟩)):af0 E C Q m c t fr ids bs [] σ:=h
theorem bA4 {y:List D} (h:i6 E (C.round m) (QW (cX6 E C Q m c t fr ids bs Y)) (bg4 E C.fn.ntmps (cs7 c) (rfA c) (rfB c) fr y σ)):af0 E C Q m c t fr ids bs (y::Y) σ:=h
theorem cL3 {α T:Type}{q:Qy}{o:Option (List T)}{F:List T→Option α}{r:α}{g:FuncId}{caps1 caps:List D}{sub1 sub:i4} (en:T→List D) (h:o.bind F=some r) (hq:q.rngA=some (m,g,caps1,sub1,σ,[])) (he:caps1=caps∧sub1=sub)
  (hr:q.rngR=bg4 E C.fn.ntmps (cs7 c) (rfA c) (rfB c) fr) (hk' :q.rngK=bl5 t fr) (hs:∀y,o=some y→av1 E g caps sub [] (y.map en)) (hk:∀y,o=some y→F y=some r→af0 E C Q m c t fr [] [] (y.map en) σ):i6 E C Q q:=by
 obtain⟨rfl,rfl⟩:=he
 cases o with
 | none=>cases h
 | some y=>
  refine cK9 hq (.inl rfl) (hs y rfl) ?_
  have:=hk y rfl h
  unfold af0 at this
  rw[hr,hk']
  exact this
theorem cT2 {α T:Type}{q:Qy}{o:Option (List T)}{F:List T→Option α}{r:α}{g:FuncId}{caps1 caps:List D}{sub1 sub:i4} (en:T→List D) (h:o.bind F=some r) (hq:q.rngA=some (m,g,caps1,sub1,σ,ids)) (he:caps1=caps∧sub1=sub)
  (hi:ids.isEmpty=false) (hb:C6 (tr (M8 (au6 ids σ.length)) l8) sub=some bs) (hbs:x7 σ ids=bs)
  (hr:q.rngR=bg4 E C.fn.ntmps (cs7 c) (rfA c) (rfB c) fr) (hk' :q.rngK=bl5 t fr) (hs:∀y,o=some y→av1 E g caps sub sub (y.map en)) (hk:∀y,o=some y→F y=some r→af0 E C Q m c t fr ids bs (y.map en) σ):i6 E C Q q:=by
 obtain⟨rfl,rfl⟩:=he
 subst hbs
 cases o with
 | none=>cases h
 | some y=>
  refine cK9 hq (.inr hb) (by rw[hi];exact hs y rfl) ?_
  have:=hk y rfl h
  unfold af0 at this
  rw[hr,hk']
  exact this
theorem bM1 {q:Qy} (ns:List Fx) {s1 s:i4} (h:q.retF ns=some (.int .i64 0,s1)) (he:s1=s) (hB:x7 s ids=bs) (hk:af0 E C Q m c t fr ids bs Y s):i6 E (C.round m) (QW (cX6 E C Q m c t fr ids bs Y)) q:=by
 subst he
 exact aS7 ns h Cx.fin_round ⟨hB,.inl ⟨rfl,hk⟩⟩
end
def O6 {S R:Type} (Pd:S→R→Prop) (r:R):S⊕R→Prop
 | .inl s=>Pd s r
 | .inr r' =>r' =r
theorem bM2 {S R:Type}{Pd:S→R→Prop}{step:S→Option (S⊕R)} (hs:∀(s:S) (x:S⊕R) (r:R),step s=some x→O6 Pd r x→Pd s r):∀{s:S}{r:R},Ev step s r→Pd s r:=fun h=>by
 induction h with
 | done h=>exact hs _ _ _ h rfl
 | next h _ ih=>exact hs _ _ _ h ih
/-! ### iterators -/
inductive EvL {S T:Type} (step:S→Option (List T×Option S)):S→List T→Prop
 | done {s:S}{l:List T}:step s=some (l,none)→EvL step s l
 | next {s s' :S}{l r:List T}:step s=some (l,some s')→EvL step s' r→EvL step s (l++r)
theorem EvL.det {S T:Type}{step:S→Option (List T×Option S)}{s:S}{r r' :List T} (h:EvL step s r) (h' :EvL step s r'):r=r' :=by
 induction h generalizing r' with
 | done h=>
  cases h' with
  | done h2=>rw[h] at h2;simpa using h2
  | next h2 _=>rw[h] at h2;simp at h2
 | next h _ ih=>
  cases h' with
  | done h2=>rw[h] at h2;simp at h2
  | next h2 h3=>
   rw[h] at h2
   simp only[Option.some.injEq,Prod.mk.injEq] at h2
   obtain⟨rfl,rfl⟩:=h2
   rw[ih h3]
open Classical in
/-- What an iterator aM8. -/
noncomputable def evl {S T : Type} (step : S → Option (List T × Option S)) (s : S) : Option (List T) := if h : ∃ r, EvL step s r then some (Classical.choose h) else none
theorem cy3 {S T:Type}{step:S→Option (List T×Option S)}{s:S}{r:List T} (h:evl step s=some r):EvL step s r:=by
 unfold evl at h
 split at h
 ·rename_i hh
  obtain rfl:=Option.some.inj h
  exact Classical.choose_spec hh
 ·cases h
theorem cw3 {S T:Type}{step:S→Option (List T×Option S)}{s:S}{r:List T} (h:EvL step s r):evl step s=some r:=by
 unfold evl
 have hh:∃r,EvL step s r:=⟨r,h⟩
 rw[dif_pos hh,(Classical.choose_spec hh).det h]
def az6 {S T:Type} (E:E7) (ln:i4) (C:Option (List (List D))→Cx) (en:T→List D) (I6:S→M) (lnS:S→i4):List T×Option S→List (List D)→Prop
 | (l,none),Y=>Y=l.map en
 | (l,some s),Y=>∃Y',Y=l.map en++Y' ∧(lnS s=ln→i6 E (C (some Y')) (fun _ s=>U6 ln s) (.go (I6 s)))
section
variable {S T : Type} {E : E7} {fn : Func} {m l : Nat} {ln : i4} {φ0 : o8} {J : Option (List (List D)) → World → (Nat → Prop) → (Nat → Prop) → Prop} {en : T → List D} {I6 : S → M} {lnS : S → i4} {Y : List (List D)}
theorem cm3 {step:S→Option (List T×Option S)} (hs:∀(s:S) (x:List T×Option S) (Y:List (List D)),lnS s=ln→step s=some x→az6 E ln (Cx.seq fn m ln l φ0 J) en I6 lnS x Y→i6 E (Cx.seq fn m ln l φ0 J (some Y)) (fun _ s=>U6 ln s) (.go (I6 s))):
  ∀{s:S}{r:List T},lnS s=ln→EvL step s r→i6 E (Cx.seq fn m ln l φ0 J (some (r.map en))) (fun _ s=>U6 ln s) (.go (I6 s)):=fun hl h=>by
 induction h with
 | done h=>exact hs _ _ _ hl h rfl
 | next h _ ih=>exact hs _ _ _ hl h ⟨_,by rw[List.map_append],ih⟩
theorem aF5 {s:S} (hl:lnS s=ln) (h:az6 E ln (Cx.seq fn m ln l φ0 J) en I6 lnS ([],some s) Y):i6 E (Cx.seq fn m ln l φ0 J (some Y)) (fun _ s=>U6 ln s) (.go (I6 s)):=by
 obtain⟨Y',rfl,h⟩:=h
 exact h hl
theorem cC4 {q:Qy}{d:D}{s:i4} (h:q.retR=some (d,s)) (hl:s.take ln.length=ln) (ha:az6 (S:=S) E ln (Cx.seq fn m ln l φ0 J) en I6 lnS ([],none) Y):i6 E (Cx.seq fn m ln l φ0 J (some Y)) (fun _ s=>U6 ln s) q:=
 cL2 d s h (fun _=> .inl (congrArg some ha)) hl
theorem cc7 {q:Qy}{d:D}{s:i4} (h:q.retR=some (d,s)) (hl:s.take ln.length=ln):i6 E (Cx.seq fn m ln l φ0 J none) (fun _ s=>U6 ln s) q:=
 cL2 d s h (fun _=> .inr rfl) hl
theorem cs6 {q:Qy}{A:Option (List T×Option S)}{x:T}{p:List T×Option S}{s:i4} (h:A.map (fun p=>(x::p.1,p.2))=some p) (ha:az6 E ln (Cx.seq fn m ln l φ0 J) en I6 lnS p Y) (hq:q.yldA=some (l,en x,s)) (hl:s.take ln.length=ln)
  (hf:i6 E (Cx.seq fn m ln l φ0 J none) (fun _ s=>U6 ln s) (q.yldK false)) (hk:∀(p' :List T×Option S) (Y' :List (List D)),A=some p' →az6 E ln (Cx.seq fn m ln l φ0 J) en I6 lnS p' Y' →i6 E (Cx.seq fn m ln l φ0 J (some Y')) (fun _ s=>U6 ln s) (q.yldK true)):
  i6 E (Cx.seq fn m ln l φ0 J (some Y)) (fun _ s=>U6 ln s) q:=by
 cases A with
 | none=>cases h
 | some p' =>
  obtain rfl:=Option.some.inj h
  obtain⟨l',o⟩:=p'
  cases o with
  | none=>
   have hY:Y=en x::l'.map en:=ha
   subst hY
   exact cL7 hq rfl rfl rfl hl rfl (hk _ _ rfl rfl) hf
  | some s=>
   obtain⟨Y',hY,h'⟩:=ha
   have hY' :Y=en x::(l'.map en++Y'):=hY
   subst hY'
   exact cL7 hq rfl rfl rfl hl rfl (hk _ _ rfl ⟨Y',rfl,h'⟩) hf
end
class Mix (E:E7):Prop where
 hm:E.P.follows .mixedOrders=true
def Rs {R:Type} (e:R→D×i4) (r:R) (d:D) (s:i4):Prop:=d=(e r).1∧s=(e r).2
def ch2 (fr:Fr):Nat:=fr.foldl (fun m x=>m ||| bit x.1) 0
def J0 (fn:Func) (args:List D) (σ:i4):M:=⟨[.code (r9 fn)],(List.range args.length).zip args,σ⟩
def AOk (E:E7) (C:Cx) {R:Type} (e:R→D×i4) (m:M) (o:Option R):Prop:=∀⦃r:R⦄,o=some r→i6 E C (QW (Rs e r)) (.go m)
def SOk (E:E7) (C:Cx) {S R:Type} (e:R→D×i4) (I6:S→M) (s:S) (o:Option (S⊕R)):Prop:=∀(r:R) (x:S⊕R),o=some x→aG6 E C (Rs e) I6 r x→i6 E C (QW (Rs e r)) (.go (I6 s))
section
variable {E : E7} [Mix E] {C : Cx} {Q : D → i4 → Prop} {q : Qy} {α : Type} {r : α}
theorem zs {c:Bool}{A B:Option α} (n:Nat) (h:(bif c then A else B)=some r) (ht:A=some r→i6 E C Q ((G6 E C n q).splitK true)) (hf:B=some r→i6 E C Q ((G6 E C n q).splitK false)) (hq:(G6 E C n q).splitB=some c:=by kernel_rfl):i6 E C Q q:=
 o7 Mix.hm n q (cN8 h hq (fun _=>ht) fun _=>hf)
theorem zn {c:Bool}{A:Option α} (n:Nat) (h:(bif c then A else none)=some r) (hk:A=some r→i6 E C Q (G6 E C n q).needK) (hq:(G6 E C n q).needB=some c:=by kernel_rfl):i6 E C Q q:=
 o7 Mix.hm n q (cU5 h hq fun _=>hk)
theorem zr {β:Type}{l:List β}{i:Nat}{F:β→Option α} (n:Nat) (en:β→List D) (h:(l[i]?).bind F=some r) (hk:∀y,F y=some r→i6 E C Q ((G6 E C n q).rowK (en y))) (hq:(G6 E C n q).rowR=some ((l.map en)[i]?):=by kernel_rfl):i6 E C Q q:=
 o7 Mix.hm n q (da1 _ en h hq List.getElem?_map fun y _=>hk y)
theorem zc {β:Type}{o:Option β}{F:β→Option α}{f:FuncId}{args:List D}{sub:i4}{e:β→D×i4} (n:Nat) (ns:List (Option Nat)) (h:o.bind F=some r) (hs:∀y,o=some y→l4 E f args sub (Rs e y)) (hk:∀y,F y=some r→i6 E C Q ((G6 E C n q).callK (e y).1 (e y).2)) (hq:(G6 E C n q).callF ns=some (f,args,sub):=by kernel_rfl):i6 E C Q q:=
 o7 Mix.hm n q (cT1 ns (fun y=>(e y).1) (fun y=>(e y).2) h hq hs fun y _=>hk y)
theorem zd {β:Type}{o:Option β}{F:β→Option α}{f:FuncId}{args:List D}{e:β→D×i4} (n:Nat) (ns:List (Option Nat)) (h:o.bind F=some r) (hs:∀y,o=some y→l4 E f args [] (Rs e y)) (hk:∀y,F y=some r→i6 E C Q ((G6 E C n q).callDK (e y).1)) (he:∀y,(e y).2= []:=by exact fun _=>rfl) (hq:(G6 E C n q).callDF ns=some (f,args):=by kernel_rfl):i6 E C Q q:=
 o7 Mix.hm n q (cN6 ns (fun y=>(e y).1) h hq (fun y hy=>(hs y hy).mono fun d s hh=>⟨hh.1,hh.2.trans (he y)⟩) fun y _=>hk y)
theorem zcE {β:Type}{o:Option β}{F:β→Option α}{f:FuncId}{args1 args:List D}{sub1 sub:i4}{e:β→D×i4} (n:Nat) (ns:List (Option Nat)) (h:o.bind F=some r) (hs:∀y,o=some y→l4 E f args sub (Rs e y)) (he:args1=args∧sub1=sub) (hk:∀y,F y=some r→i6 E C Q ((G6 E C n q).callK (e y).1 (e y).2)) (hq:(G6 E C n q).callF ns=some (f,args1,sub1):=by kernel_rfl):i6 E C Q q:=by
 obtain⟨rfl,rfl⟩:=he
 exact zc n ns h hs hk hq
theorem zdE {β:Type}{o:Option β}{F:β→Option α}{f:FuncId}{args1 args:List D}{e:β→D×i4} (n:Nat) (ns:List (Option Nat)) (h:o.bind F=some r) (hs:∀y,o=some y→l4 E f args [] (Rs e y)) (ha:args1=args) (hk:∀y,F y=some r→i6 E C Q ((G6 E C n q).callDK (e y).1)) (he:∀y,(e y).2= []:=by exact fun _=>rfl) (hq:(G6 E C n q).callDF ns=some (f,args1):=by kernel_rfl):i6 E C Q q:=by
 subst ha
 exact zd n ns h hs hk he hq
theorem l4.sub {f:FuncId}{args:List D}{sub sub' :i4}{fr' :Fr}{l:List Fx}{Qc:D→i4→Prop} (h:fxs l ([],sub)=some (fr',sub')) (hs:l4 E f args sub' Qc):l4 E f args sub Qc:=fun w Im φ vs hg hi ha=>by
 obtain⟨φ1,a1,a2,a3,a4,-⟩:=bn8 h sub.length w Im φ (fun _=>undef) (Nat.le_of_eq hi.len.symm) hi (fun t=> .undef _)
 refine(hs w Im φ1 vs hg a4 ⟨ha.1,fun i d v e1 e2=>(ha.2 i d v e1 e2).mono (fun _ h=>h) (fun _ _=>rfl) a1⟩).mono ?_
 rintro e w' ⟨v,d,s2,φ2,I2,rfl,b1,b2,b3,b4⟩
 exact⟨v,d,s2,φ2,I2,rfl,a3.trans (b1.le (by rw[←hi.len,←a4.len];exact a2)),b2,b3,b4⟩
def Qy.callFx (l:List Fx) (ns:List (Option Nat)):Qy→Option (FuncId×List D×i4)
 | .call f args sub _=>(match bp8 ns args,fxs l ([],sub) with | some a,some x=>some (f,a,x.2) | _,_=>none)
 | _=>none
theorem zcx {β:Type}{o:Option β}{F:β→Option α}{f:FuncId}{args1 args:List D}{sub1 sub:i4}{e:β→D×i4} (n:Nat) (ns:List (Option Nat)) (l:List Fx) (h:o.bind F=some r) (hs:∀y,o=some y→l4 E f args sub (Rs e y)) (hk:∀y,F y=some r→i6 E C Q ((G6 E C n q).callK (e y).1 (e y).2)) (he:args1=args∧sub1=sub:=by exact⟨rfl,rfl⟩) (hq:(G6 E C n q).callFx l ns=some (f,args1,sub1):=by kernel_rfl):i6 E C Q q:=by
 obtain⟨rfl,rfl⟩:=he
 refine o7 Mix.hm n q ?_
 generalize G6 E C n q=q' at hk hq
 cases q' with
 | call f' args' sub' k=>
  simp only[Qy.callFx] at hq
  split at hq
  ·rename_i a x h1 h2
   simp only[Option.some.injEq,Prod.mk.injEq] at hq
   obtain⟨rfl,rfl,rfl⟩:=hq
   cases o with
   | none=>cases h
   | some y=>exact⟨Rs e y,l4.sub (fr' :=x.1) h2 ((hs y rfl).args h1),fun d' s' ⟨e1,e2⟩=>by rw[e1,e2];exact hk y h⟩
  ·cases hq
 | _=>cases hq
def Qy.callRF (ns:List (Option Nat)):Qy→Option (FuncId×List D×i4)
 | .callR f args sub _ _ _=>(match bp8 ns args with | some a=>some (f,a,sub) | none=>none)
 | _=>none
theorem zdR {β:Type}{o:Option β}{F:β→Option α}{f:FuncId}{args:List D}{sub:i4}{e:β→D×i4} (n:Nat) (ns:List (Option Nat)) (h:o.bind F=some r) (hs:∀y,o=some y→l4 E f args sub (Rs e y)) (hk:∀y,F y=some r→i6 E C Q ((G6 E C n q).callRK (e y).1 (e y).2)) (hq:(G6 E C n q).callRF ns=some (f,args,sub):=by kernel_rfl) (ht:∀y,(G6 E C n q).callRT (e y).1 (e y).2=some (G6 E C n q).callRS:=by intro y;kernel_rfl):i6 E C Q q:=by
 refine o7 Mix.hm n q ?_
 generalize G6 E C n q=q' at hk hq ht
 cases q' with
 | callR f' args' sub' σ bk k=>
  simp only[Qy.callRF] at hq
  split at hq
  ·rename_i a ha
   simp only[Option.some.injEq,Prod.mk.injEq] at hq
   obtain⟨rfl,rfl,rfl⟩:=hq
   cases o with
   | none=>cases h
   | some y=>
    have h1:=ht y
    have h2:=hk y h
    simp only[Qy.callRT,Qy.callRS,Option.map_eq_some_iff] at h1
    obtain⟨x,hx,h1⟩:=h1
    simp only[Qy.callRK,hx] at h2
    exact⟨_,_,x,(hs y rfl).args ha,hx,h1,h2⟩
  ·cases hq
 | _=>cases hq
theorem zg (n:Nat) {m:M} (h:i6 E C Q (.go m)) (l:List Fx:= []) (hq:(G6 E C n q).cut C (ch2 m.fr) l=some m:=by kernel_rfl):i6 E C Q q:=
 o7 Mix.hm n q (aL8 _ l hq h)
theorem zu {fn:Func}{k:Bool}{m:Nat}{q:Qy}{R:Type}{r r' :R}{e:R→D×i4} (n:Nat) (h:some r' =some r) (l:List Fx:= []) (hq:(G6 E (.of fn k m) n q).retF l=some (e r'):=by kernel_rfl):i6 E (.of fn k m) (QW (Rs e r)) q:=by
 obtain rfl:=Option.some.inj h
 exact o7 Mix.hm n q (aS7 l (d:=(e r').1) (s:=(e r').2) hq Cx.fin_of ⟨rfl,rfl⟩)
theorem zj {S R:Type}{e:R→D×i4}{I6:S→M}{s:S}{x:S⊕R}{r:R} (n:Nat) (h:some (.inl s)=some x) (ha:aG6 E C (Rs e) I6 r x) (hq:G6 E C n q=.go (I6 s):=by kernel_rfl):i6 E C (QW (Rs e r)) q:=by
 obtain rfl:=Option.some.inj h
 exact o7 Mix.hm n q (by rw[hq];exact ha)
theorem zk {S R:Type}{e:R→D×i4}{I6:S→M}{s:S}{x:S⊕R}{r:R} (n:Nat) (h:some (.inl s)=some x) (ha:aG6 E C (Rs e) I6 r x) (l:List Fx:= []) (hq:(G6 E C n q).cut C (ch2 (I6 s).fr) l=some (I6 s):=by kernel_rfl):i6 E C (QW (Rs e r)) q:=by
 obtain rfl:=Option.some.inj h
 exact zg n ha l hq
theorem zt {fn:Func}{k:Bool}{m:Nat}{q:Qy}{S R:Type}{e:R→D×i4}{I6:S→M}{r r' :R}{x:S⊕R} (n:Nat) (h:some (.inr r')=some x) (ha:aG6 E (.of fn k m) (Rs e) I6 r x) (l:List Fx:= []) (hq:(G6 E (.of fn k m) n q).retF l=some (e r'):=by kernel_rfl):i6 E (.of fn k m) (QW (Rs e r)) q:=by
 obtain rfl:=Option.some.inj h
 obtain rfl:r' =r:=ha
 exact o7 Mix.hm n q (aS7 l (d:=(e r').1) (s:=(e r').2) hq Cx.fin_of ⟨rfl,rfl⟩)
theorem zm (n:Nat) {b:Bool} (hb:b=true) (hk:i6 E C Q (G6 E C n q).needK) (hq:(G6 E C n q).needB=some b:=by kernel_rfl):i6 E C Q q:=
 o7 Mix.hm n q (cM4 hq hb hk)
theorem zw (n:Nat) {a b:List (List D)} (hr:a=b) (hk:i6 E C Q ((G6 E C n q).rowsK b)) (hq:(G6 E C n q).rowsR=some a:=by kernel_rfl):i6 E C Q q:=
 o7 Mix.hm n q (cu1 a b hq hr hk)
theorem za {β:Type} (n:Nat) (en:β→List D) (l xs:List β) (hk:i6 E C Q ((G6 E C n q).needK.rowsK ((l++xs).map en))) (hn:(G6 E C n q).needB=some (Nat.ble (0+(l.map en).length) (l.map en).length):=by kernel_rfl) (hq:(G6 E C n q).needK.rowsR=some (List.take (l.map en).length (List.drop 0 (l.map en))++xs.map en):=by kernel_rfl):i6 E C Q q:=
 zm n (C8 _) (cu1 _ _ hq (cI9 _ _ _) hk) hn
def Qy.fxK (l:List Fx):Qy→Qy
 | .go m=>(match fxs l (m.fr,m.st) with | some x=> .go ⟨m.td,x.1,x.2⟩ | none=> .bad)
 | _=> .bad
theorem cT4 {l:List Fx} (h:i6 E C Q (q.fxK l)):i6 E C Q q:=by
 cases q with
 | go m=>
  simp only[Qy.fxK] at h
  split at h
  ·rename_i x hx
   intro FF nf hFF lo0 a w Im φ hs R hR
   obtain⟨φ1,a1,a2,a3,a4,a5⟩:=bn8 hx C.m w Im φ (fun t=>a.tmps.getD t undef) hs.m hs.inv hs.fr
   exact h FF nf hFF lo0 a w Im φ1 ⟨a5,a4,hs.sd.tr (Nat.le_refl _) hs.inv a3 a4,hs.sz,Nat.le_trans hs.m a2⟩ R (fun e a' w' hd=>hR e a' w' (N5.of_tr a3 hd))
  ·exact h.elim
 | _=>exact h.elim
theorem zf (n:Nat) (l:List Fx) (h:i6 E C Q ((G6 E C n q).fxK l)):i6 E C Q q:=o7 Mix.hm n q (cT4 h)
theorem zkP {S R:Type}{Pd:S→R→Prop}{s:S}{x:S⊕R}{r:R}{m:M} (n:Nat) (h:some (.inl s)=some x) (ha:O6 Pd r x) (hp:Pd s r→i6 E C Q (.go m)) (l:List Fx:= []) (hq:(G6 E C n q).cut C (ch2 m.fr) l=some m:=by kernel_rfl):i6 E C Q q:=by
 obtain rfl:=Option.some.inj h
 exact zg n (hp ha) l hq
theorem ztP {fn:Func}{k:Bool}{m:Nat}{q:Qy}{S R:Type}{e:R→D×i4}{Pd:S→R→Prop}{r r' :R}{x:S⊕R} (n:Nat) (h:some (.inr r')=some x) (ha:O6 Pd r x) (l:List Fx:= []) (hq:(G6 E (.of fn k m) n q).retF l=some (e r'):=by kernel_rfl):i6 E (.of fn k m) (QW (Rs e r)) q:=by
 obtain rfl:=Option.some.inj h
 obtain rfl:r' =r:=ha
 exact o7 Mix.hm n q (aS7 l (d:=(e r').1) (s:=(e r').2) hq Cx.fin_of ⟨rfl,rfl⟩)
theorem so {f:FuncId}{fn:Func}{k:Bool}{m:Nat}{args:List D}{σ:i4}{R:Type}{e:R→D×i4}{r:R}{o:Option R} (h:o=some r) (hs:AOk E (.of fn k m) e (J0 fn args σ) o) (hC:(E.pol f).keep=k∧σ.length=m:=by exact⟨by kernel_rfl,by kernel_rfl⟩) (hf:E.P.funcs[f]? =some fn:=by kernel_rfl) (hst:be5 fn args σ=some (J0 fn args σ):=by kernel_rfl):l4 E f args σ (Rs e r):=by
 obtain⟨rfl,rfl⟩:=hC
 exact aI7 hf hst (hs h)
theorem sc {f:FuncId}{fn:Func}{k:Bool}{m:Nat}{args:List D}{σ:i4}{S R:Type}{e:R→D×i4}{I6:S→M}{step:S→Option (S⊕R)}{s0:S}{r:R} (h:evf step s0=some r) (hs:∀s,SOk E (.of fn k m) e I6 s (step s)) (hC:(E.pol f).keep=k∧σ.length=m:=by exact⟨by kernel_rfl,by kernel_rfl⟩) (hf:E.P.funcs[f]? =some fn:=by kernel_rfl) (hst:be5 fn args σ=some (I6 s0):=by kernel_rfl):l4 E f args σ (Rs e r):=by
 obtain⟨rfl,rfl⟩:=hC
 exact aI7 hf hst (cW5 (fun s x r hs' ha=>hs s r x hs' ha) (bG0 h))
end
section
variable {E : E7} {C : Cx} {Q : D → i4 → Prop} {q : Qy}
def s8 (c:UInt8):List D:= [.int .u8 (c.toNat:Int)]
end
def pick {α:Type}:Nat→List (Option α)→Option α
 | _,[]=>none
 | 0,a::_=>a
 | j+1,_::l=>pick j l
section
variable {E : E7} [Mix E] {C : Cx} {Q : D → i4 → Prop} {q : Qy} {α : Type} {r : α}
theorem zq3 {j:Nat}{A0 A1 A2:Option α} (n:Nat) {x0 x1 x2:List D} (h:pick j [A0,A1,A2]=some r) (h0:A0=some r→i6 E C Q ((G6 E C n q).rowK x0)) (h1:A1=some r→i6 E C Q ((G6 E C n q).rowK x1)) (h2:A2=some r→i6 E C Q ((G6 E C n q).rowK x2)) (hq:(G6 E C n q).rowR=some ([x0,x1,x2][j]?):=by kernel_rfl):i6 E C Q q:=
 o7 Mix.hm n q (match j,h,hq with
  | 0,h,hq=>bZ8 _ x0 hq rfl (h0 h)
  | 1,h,hq=>bZ8 _ x1 hq rfl (h1 h)
  | 2,h,hq=>bZ8 _ x2 hq rfl (h2 h)
  | _+3,h,_=>by simp[pick] at h)
theorem zlC {β:Type}{o:Option β}{y:β}{f:FuncId}{args:List D}{sub:i4}{e:β→D×i4} (n:Nat) (ns:List (Option Nat)) (ho:o=some y) (hs:∀y,o=some y→l4 E f args sub (Rs e y)) (hk:i6 E C Q ((G6 E C n q).callK (e y).1 (e y).2)) (hq:(G6 E C n q).callF ns=some (f,args,sub):=by kernel_rfl):i6 E C Q q:=
 o7 Mix.hm n q (cn7 ns hq (hs y ho) hk)
end
end Go.RX
