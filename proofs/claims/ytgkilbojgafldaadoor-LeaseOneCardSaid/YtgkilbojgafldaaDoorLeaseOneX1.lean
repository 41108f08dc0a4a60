/-
  Words and walks for LeaseOne. No condition.
-/
import Derived.Scope
import Derived.ControlIn
import Derived.CallsIn
import Derived.TacticsIn
import Derived.OrdersIn
import Derived.RangeFuncRecord
import Derived.Test.YtgkilbojgafldaaDoorLeaseOneX0
set_option linter.unusedSectionVars false
set_option linter.unnecessarySimpa false
set_option linter.unusedSimpArgs false
set_option linter.unusedVariables false
namespace Go.RX
open Go
section
variable {P : Program} {w : World} {Im : Nat → Prop} {φ : o8} {σ : i4}
theorem ct4 {n k:Nat}{new:List (List D)}{news:List Value}{dp:Bool} (hlen:news.length=new.length*n) (hk:k≤new.length)
  (hrel:∀(i j:Nat) (r:List D) (d:D),new[i]? =some r→r[j]? =some d→∃u,news[i*n+j]? =some u∧i7 w Im (if dp then φ else []) d u) (hrows:∀r∈new,S8 n r):
  (news.take (k*n)).length=(new.take k).length*n∧∀(i j:Nat) (r:List D) (d:D),(new.take k)[i]? =some r→r[j]? =some d→∃u,(news.take (k*n))[i*n+j]? =some u∧i7 w Im (if dp then φ else []) d u:=by
 have:=Nat.mul_le_mul_right n hk
 refine⟨by simp;rw[Nat.min_eq_left hk];omega,fun i j r d h1 h2=> ?_⟩
 rw[List.getElem?_take] at h1
 split at h1
 ·rename_i hi
  obtain⟨u,hu,hur⟩:=hrel i j r d h1 h2
  have hj:=(List.getElem?_eq_some_iff.1 h2).1
  rw[(hrows r (List.mem_of_getElem? h1)).1] at hj
  exact⟨u,by rw[List.getElem?_take,if_pos (az2 hi hj)];exact hu,hur⟩
 ·cases h1
theorem cG4 (hi:Inv w Im φ σ) {t tx ty:TypeId}{d s:D}{dv sv:Value} (hd:i7 w Im φ d dv) (hs:i7 w Im φ s sv):l7 P w Im φ σ (Builtin.copy_ #[t,tx] ty #[dv,sv]) (cq6 P t d s σ):=by
 unfold cq6
 split
 ·rename_i e hu
  split
  ·rename_i n sz dp cnt rows b i len lo ex hn hrows
   split
   ·rename_i B hB
    split
    ·rename_i hc
     obtain⟨hc1,hc2,hc3⟩:=hc
     subst hc2
     refine bo6 fun hcnt=> ?_
     obtain⟨news,hsrc⟩:=bA2 hi hs hrows hc1 hc3 hcnt
     obtain⟨ie,g1,g2⟩:=bq0 hn
     obtain⟨l,hl,hdv⟩:=hd.msl_inv
     obtain⟨l',hl',hk⟩:=hi.loc hB
     obtain rfl:=Option.some.inj (hl.symm.trans hl')
     intro hb
     show l7 P w Im φ σ _ (.ok _ _)
     have hb' :=Nat.le_of_ble_eq_true hb
     have hm:min rows.length len≤rows.length:=Nat.min_le_left _ _
     have hm2:min rows.length len≤len:=Nat.min_le_right _ _
     obtain⟨t1,t2⟩:=ct4 hsrc.len hm hsrc.rel hsrc.rows
     have hfit:=hk.fit
     have hin:l.base+(i+min rows.length len)*B.sz≤l.size:=by
      have:=Nat.mul_le_mul_right B.sz (show i+min rows.length len≤B.rows.length by omega)
      omega
     have htl:(rows.take (min rows.length len)).length=min rows.length len:=by simp
     obtain⟨b1,b2⟩:=bq6 hi hB hl i (by omega) t1 (fun r hr=>hsrc.rows r (List.mem_of_mem_take hr)) t2 (by rw[htl];exact hin) true
     simp only[if_true,htl] at b1 b2
     refine⟨.int .i64 ((min rows.length len:Nat):Int),_,φ,?_,l5.refl _,b2,b1,.int _ _⟩
     --the run
     rcases hdv with⟨rfl,rfl,rfl⟩ | ⟨cap,ad,rfl,a1,a2,a3,a4,a5,a6⟩
     ·have hlen:∀w' :World,(Builtin.lenOf sv).run P w' =.ok rows.length w' :=by
       rcases hsrc.kind with⟨a,c,rfl,_⟩ | ⟨rfl,h0,_⟩ | ⟨s',rfl,_,_,h0⟩
       ·intro;rfl
       ·intro;rw[h0];rfl
       ·intro;rw[h0];rfl
      have hcells:(Builtin.firstCells B.sz 0 sv).run P w=.ok #[] w:=by
       rcases hsrc.kind with⟨a,c,rfl,hcell⟩ | ⟨rfl,h0,h1⟩ | ⟨s',rfl,hs1,hs2,h0⟩
       ·exact run_firstCells_some w B.sz 0 a _ c [] (by simp) (fun j u hj=>by simp at hj)
       ·simpa using run_firstCells_none w B.sz 0 0 0
       ·simp[Builtin.firstCells,byteCells]
      have h00:min rows.length 0=0:=by simp
      simp[Builtin.copy_,run_underlying hu,hlen,A3 hn,hcells,goInt,World.setCells]
     have hlen:∀w' :World,(Builtin.lenOf sv).run P w' =.ok rows.length w' :=by
      rcases hsrc.kind with⟨a,c,rfl,_⟩ | ⟨rfl,h0,_⟩ | ⟨s',rfl,_,_,h0⟩
      ·intro;rfl
      ·intro;rw[h0];rfl
      ·intro;rw[h0];rfl
     have hcells:(Builtin.firstCells ie.size (min rows.length len) sv).run P w=.ok (news.take (min rows.length len*B.sz)).toArray w:=by
      rw[g2]
      rcases hsrc.kind with⟨a,c,rfl,hcell⟩ | ⟨rfl,h0,h1⟩ | ⟨s',rfl,hs1,hs2,h0⟩
      ·exact run_firstCells_some w B.sz (min rows.length len) a _ c _ (by rw[t1,htl]) (fun j u hj=>hcell j u (by rw[List.getElem?_take] at hj;split at hj;exact hj;cases hj))
      ·subst h0;subst h1;simpa using run_firstCells_none w B.sz 0 0 0
      ·rw[hs1] at*
       simp only[Builtin.firstCells,Sem.run_pure,hs2,Nat.mul_one]
       congr 1
       apply Array.ext'
       simp[byteCells,ByteArray.data_extract,List.extract_eq_take_drop]
     have hst:(match (some ad:Option Addr) with | some a=>storeCells a (news.take (min rows.length len*B.sz)) | none=>pure ()).run P w=.ok () (w.setCells l.blk (l.base+i*B.sz) (news.take (min rows.length len*B.sz))):=by
      by_cases hcap:cap=0
      ·have h0:min rows.length len=0:=by omega
       rw[h0];simp[storeCells,World.setCells]
      ·obtain rfl:=a6 hcap
       have hone:∀v∈news.take (min rows.length len*B.sz),v.oneCell' =true:=fun v hv=>hsrc.one v (List.mem_of_mem_take hv)
       have hmem:∀j,j<(news.take (min rows.length len*B.sz)).length→l.base+i*B.sz+j<l.size:=fun j hj=>by
        rw[t1,htl] at hj
        rw[Nat.add_mul] at hin
        omega
       have:=run_storeCells_cells (P:=P) l.blk (l.base+i*B.sz) _ 0 w (fun j hj=>by simpa using(hk.mem _ (hmem j hj)).1) (fun j hj=>by simpa using(hk.mem _ (hmem j hj)).2) hone
       rw[hk.sz]
       simpa using this
     have hmin:Nat.min rows.length len=min rows.length len:=rfl
     rw[g2] at hcells
     have hst' :(storeCells ad (news.take (min rows.length len*B.sz))).run P w=.ok () (w.setCells l.blk (l.base+i*B.sz) (news.take (min rows.length len*B.sz))):=hst
     simp[Builtin.copy_,run_underlying hu,hlen,A3 hn,hmin,hcells,hst',goInt]
    ·trivial
   ·trivial
  ·trivial
 ·trivial
theorem cy6 (hi:Inv w Im φ σ) {t ty:TypeId}{s:D}{sv:Value} (hs:i7 w Im φ s sv):l7 P w Im φ σ (Builtin.clear_ #[t] ty #[sv]) (cb5 P t s σ):=by
 unfold cb5
 split
 ·rename_i e nsz rows hu
  obtain⟨rfl,-⟩:=hs.nilsl_inv
  exact l7.pure hi ⟨.tuple #[],by simp[Builtin.clear_,run_underlying hu],.tup _ _ (by simp) (fun i d v h=>by simp at h)⟩
 ·rename_i e b i len lo ex hu
  split
  ·rename_i n zs B hn hzs hB
   split
   ·rename_i hc
    obtain⟨hc1,hc2,hc3,hc4⟩:=hc
    subst hc3
    intro hb
    have hb' :=Nat.le_of_ble_eq_true hb
    cases hz:br0 P e with
    | none=>rw[hz] at hzs;cases hzs
    | some z=>
     obtain⟨ie,zv,g1,g2,hzr⟩:=bA6 (w:=w) (Im:=Im) (φ:=φ) hz
     have hzz:zs=z:=Option.some.inj (hzs.symm.trans hz)
     subst hzz
     have hien:ie.size=B.sz:=by unfold K7 at hn;simpa[g1] using hn
     have hzsz:zv.cells.size=B.sz:=by rw[←hzr.1,hc1]
     obtain⟨l,hl,hsv⟩:=hs.msl_inv
     obtain⟨l',hl',hk⟩:=hi.loc hB
     obtain rfl:=Option.some.inj (hl.symm.trans hl')
     show l7 P w Im φ σ _ (.ok _ _)
     have hrr:=aV5 (w:=w) (Im:=Im) (φ:=φ) B.sz len zs zv.cells hzr hc1 hc2
     have hzc:Builtin.zeroCells zv.cells len=(Array.range (len*B.sz)).map (zv.cells[· %zv.cells.size]!):=by simp[Builtin.zeroCells,hzsz]
     have hsz:(Builtin.zeroCells zv.cells len).toList.length=len*B.sz:=by rw[hzc];simp
     have hrows:∀r∈List.replicate len zs,S8 B.sz r:=fun r hr=>by rw[(List.mem_replicate.1 hr).2];exact⟨hc1,hc4⟩
     have hfit:=hk.fit
     have hin:l.base+(i+len)*B.sz≤l.size:=by
      have:=Nat.mul_le_mul_right B.sz hb'
      omega
     have hrel:∀(i j:Nat) (r:List D) (d:D),(List.replicate len zs)[i]? =some r→r[j]? =some d→∃u,(Builtin.zeroCells zv.cells len).toList[i*B.sz+j]? =some u∧i7 w Im (if zs.any r6 then φ else []) d u:=fun i j r d h1 h2=>by
      obtain⟨u,hu,hur⟩:=hrr.2.2 i j r d h1 h2
      have hrz:=(List.mem_replicate.1 (List.mem_of_getElem? h1)).2
      refine⟨u,by rw[hzc,Array.getElem?_toList];exact hu,?_⟩
      rw[hrz] at h2
      exact aE5 hc4 (fun h=>h) h2 hur
     obtain⟨b1,b2⟩:=bq6 hi hB hl i (by omega) (new:=List.replicate len zs) (by rw[hsz];simp) hrows hrel (by simpa using hin) true
     simp only[if_true,List.length_replicate] at b1 b2
     refine⟨.tuple #[],_,φ,?_,l5.refl _,b2,b1,.tup _ _ (by simp) (fun i d v h=>by simp at h)⟩
     rcases hsv with⟨rfl,rfl,rfl⟩ | ⟨cap,ad,rfl,a1,a2,a3,a4,a5,a6⟩
     ·have:(Builtin.zeroCells zv.cells 0).toList= []:=List.eq_nil_of_length_eq_zero (by rw[hsz];simp)
      rw[this]
      simp[Builtin.clear_,run_underlying hu,World.setCells]
     by_cases h0:len=0
     ·subst h0
      have:(Builtin.zeroCells zv.cells 0).toList= []:=List.eq_nil_of_length_eq_zero (by rw[hsz];simp)
      rw[this]
      simp[Builtin.clear_,run_underlying hu,World.setCells]
     ·obtain rfl:=a6 (by omega)
      have hone:∀v∈(Builtin.zeroCells zv.cells len).toList,v.oneCell' =true:=fun v hv=>by
       obtain⟨p,hp,rfl⟩:=List.getElem_of_mem hv
       have hp' :=hp
       rw[hsz] at hp'
       have h1:p/B.sz<len:=(Nat.div_lt_iff_lt_mul hc2).2 hp'
       have h2:p%B.sz<B.sz:=Nat.mod_lt _ hc2
       have h3:p/B.sz*B.sz+p%B.sz=p:=by rw[Nat.mul_comm];exact Nat.div_add_mod p B.sz
       obtain⟨u,hu',hur⟩:=hrel (p/B.sz) (p%B.sz) zs (zs[p%B.sz]'(by omega)) (by simp[List.getElem?_replicate,h1]) (by simp)
       rw[h3,List.getElem?_eq_getElem hp] at hu'
       rw[Option.some.inj hu']
       exact hur.one (List.all_eq_true.1 hc4 _ (List.getElem_mem _))
      have hmem:∀j,j<(Builtin.zeroCells zv.cells len).toList.length→l.base+i*B.sz+j<l.size:=fun j hj=>by
       rw[hsz] at hj
       rw[Nat.add_mul] at hin
       omega
      have:=run_storeCells_cells (P:=P) l.blk (l.base+i*B.sz) _ 0 w (fun j hj=>by simpa using(hk.mem _ (hmem j hj)).1) (fun j hj=>by simpa using(hk.mem _ (hmem j hj)).2) hone
      simp only[Nat.add_zero] at this
      rw[hk.sz]
      obtain⟨m,rfl⟩:∃m,len=m+1:=⟨len-1,by omega⟩
      simp only[Builtin.clear_]
      simp[run_underlying hu,zeroValue,typeInfo,g1,g2,this]
   ·trivial
  ·trivial
 ·trivial
theorem cj0 (w:World) (cs:Array Value) (e:TypeId):(w.alloc (.cells cs e (0,0))).freeze ⟨w.heap.size,cs.size,none⟩ 1=w.alloc (.cells cs e (cs.size,cs.size+1)):=by
 simp only[World.freeze]
 rw[if_neg (by omega)]
 show({ w with heap:=(w.heap.push (.cells cs e (0,0))).modify w.heap.size _ }:World)={ w with heap:=w.heap.push (.cells cs e (cs.size,cs.size+1)) }
 congr 1
 apply Array.ext
 ·simp
 ·intro i h1 h2
  simp only[Array.getElem_modify,Array.getElem_push]
  by_cases hi:w.heap.size=i
  ·subst hi;simp
  ·simp only[if_neg hi]
   split
   ·rfl
   ·exfalso;simp at h2;omega
theorem cf6 {xv:Value}{dp:Bool}{rows:List (List D)}{news:List Value}{bs:List UInt8} (h:bZ1 w Im φ xv 1 dp rows news) (hb:aP0 rows=some bs):
  ∃ns:List Int,news=ns.map (Value.int .u8)∧(ns.map fun n=>UInt8.ofNat n.toNat)=bs:=by
 have hl:=h.len
 have hr:=h.rel
 clear h
 rw[Nat.mul_one] at hl
 induction rows generalizing news bs with
 | nil=>simp[aP0] at hb;subst hb;simp at hl;subst hl;exact⟨[],rfl,rfl⟩
 | cons r rows ih=>
  cases news with
  | nil=>simp at hl
  | cons v news=>
   simp only[aP0] at hb
   split at hb
   ·rename_i n
    split at hb
    ·rename_i s hs
     obtain rfl:=Option.some.inj hb
     obtain⟨ns,h1,h2⟩:=ih (news:=news) hs (by simpa using hl) (fun i j r d a b=>by
      obtain⟨u,hu,hur⟩:=hr (i+1) j r d (by simpa using a) b
      refine⟨u,?_,hur⟩
      rw[show(i+1)*1+j=(i*1+j)+1 by omega] at hu
      simpa using hu)
     obtain⟨u,hu,hur⟩:=hr 0 0 [.int .u8 n] (.int .u8 n) rfl rfl
     simp at hu
     subst hu
     have:=hur.int_inv
     subst this
     exact⟨n::ns,by simp[h1],by simp[h2]⟩
    ·cases hb
   ·cases hb
theorem cI2 (hi:Inv w Im φ σ) {s d:TypeId}{x:D}{xv:Value} (hx:i7 w Im φ x xv):l7 P w Im φ σ (convert s d xv) (aV0 P s d x σ):=by
 unfold aV0
 split
 ·rename_i k1 k k2 n h1 h2
  obtain rfl:=hx.int_inv
  exact l7.pure hi ⟨_,by simp[convert,run_underlying h1,run_underlying h2,Conv.intToInt],.int _ _⟩
 ·rename_i b h1 h2
  obtain⟨s',rfl,rfl⟩:=hx.str_inv
  exact l7.pure hi ⟨_,by simp[convert,run_underlying h1,run_underlying h2],.str _ _ rfl⟩
 ·rename_i e l h1 h2
  obtain⟨b,rfl,rfl⟩:=hx.str_inv
  split
  ·rename_i h3
   generalize hcap:(Question.appendCap b.size 0 e).cut (w.tape w.drawn (.appendCap b.size 0 e))=cap
   have hge:b.size≤cap:=by rw[←hcap];simp[Question.cut]
   have hbs:b.data.toList.length=b.size:=by simp
   have harr:((b.data.map fun(c:UInt8)=>Value.int .u8 c.toNat)++Array.replicate (cap-b.size) (Value.int .u8 0)).size=cap:=by
    simp
    have:b.data.size=b.size:=rfl
    omega
   have hget:∀(i:Nat) (c:UInt8),b.data.toList[i]? =some c→((b.data.map fun(c:UInt8)=>Value.int .u8 c.toNat)++Array.replicate (cap-b.size) (Value.int .u8 0))[i*1+0]? =some (.int .u8 c.toNat):=fun i c hc=>by
    have hlt:=(List.getElem?_eq_some_iff.1 hc).1
    rw[Nat.mul_one,Nat.add_zero,Array.getElem?_append_left (by simpa using hlt)]
    simp at hc ⊢
    exact⟨c,hc,rfl⟩
   have hg:=aW6 (e:=e) (w:=w.drew) hi.drew (n:=1) (by omega) (rows:=b.data.toList.map fun c=> [.int .u8 (c.toNat:Int)]) (cs:=(b.data.map fun(c:UInt8)=>Value.int .u8 c.toNat)++Array.replicate (cap-b.size) (Value.int .u8 0)) (cap,cap+1)
    (.inr (by rw[harr];exact Nat.le_refl _)) (fun r hr=>by
     simp only[List.mem_map] at hr
     obtain⟨c,_,rfl⟩:=hr
     rfl) (by rw[harr];simp;have:b.data.size=b.size:=rfl;omega) (fun i j r d g1 g2=>by
     simp only[List.getElem?_map,Option.map_eq_some_iff] at g1
     obtain⟨c,hc,rfl⟩:=g1
     cases j with
     | zero=>simp at g2;subst g2;exact⟨_,hget i c hc,.int _ _⟩
     | succ j=>simp at g2) (fun r hr=>by
     simp only[List.mem_map] at hr
     obtain⟨c,_,rfl⟩:=hr
     rfl) false (fun r hr h=>by
     simp only[List.mem_map] at hr
     obtain⟨c,_,rfl⟩:=hr
     simp[r6] at h) b.data.toList.length cap b.data.toList.length false (Nat.le_refl _) (by rw[hbs];exact hge) (fun h=>by cases h) (by rw[harr];omega)
   have hrl:(b.data.toList.map fun c=> [D.int .u8 (c.toNat:Int)]).length=b.data.toList.length:=by simp
   show l7 P w Im φ σ _ (.ok (.msl σ.length 0 (b.data.toList.map fun c=> [D.int .u8 (c.toNat:Int)]).length (b.data.toList.map fun c=> [D.int .u8 (c.toNat:Int)]).length false) _)
   rw[hrl]
   refine⟨_,_,_,?_,T9.after (l5.refl _) (Nat.le_refl _) (Tr.drew _ _ _ _ _) hg⟩
   have hfr:=cj0 w.drew ((b.data.map fun(c:UInt8)=>Value.int .u8 c.toNat)++Array.replicate (cap-b.size) (Value.int .u8 0)) e
   rw[harr] at hfr
   have hsz:w.drew.heap.size=w.heap.size:=rfl
   have hshape:(w.drew.alloc (.cells ((b.data.map fun(c:UInt8)=>Value.int .u8 c.toNat)++Array.replicate (cap-b.size) (Value.int .u8 0)) e)).shape? w.heap.size=some (e,cap):=by
    have:(w.drew.alloc (.cells ((b.data.map fun(c:UInt8)=>Value.int .u8 c.toNat)++Array.replicate (cap-b.size) (Value.int .u8 0)) e)).heap[w.heap.size]? =some (.cells ((b.data.map fun(c:UInt8)=>Value.int .u8 c.toNat)++Array.replicate (cap-b.size) (Value.int .u8 0)) e):=by
     rw[show(w.drew.alloc (.cells ((b.data.map fun(c:UInt8)=>Value.int .u8 c.toNat)++Array.replicate (cap-b.size) (Value.int .u8 0)) e)).heap=w.heap.push _ from rfl];simp
    simp only[World.shape?,this,harr]
   rw[hsz] at hfr hg
   rw[←hfr,hbs]
   have hf:(Question.appendCap b.size 0 e).forced=false:=rfl
   have hdr:({ w with drawn:=w.drawn+1 }:World)=w.drew:=rfl
   simp only[convert,run_underlying h1,run_underlying h2,run_underlying h3,Sem.run_bind,Result.andThen_ok,Conv.stringToBytes,choose,Sem.run,hf,Bool.false_eq_true,if_false,hcap,hdr,newRow,newObj,markStringish,shape]
   show((Sem.run P (Pure.pure _) (w.drew.alloc _)).andThen _)=_
   simp only[Sem.run_pure,Result.andThen_ok,hshape]
   simp[freeze,Sem.run]
  ·trivial
 ·rename_i e0 e b i len lo ex h1 h2
  split
  ·rename_i B h3 hB
   split
   ·rename_i hsd
    obtain⟨rfl,hsz⟩:=hsd
    intro hlen
    have hlen' :0<len:=Nat.le_of_ble_eq_true hlen
    cases hx with
    | mnil=>omega
    | msl b i len lo ex l cap a g1 g2 g3 g4 g5 g6 g7=>
     have hk:=hi.blk b B l hB g1
     have hcap:0<cap:=by omega
     have hp:0<l.size:=by
      have:=hk.pos
      have h9:=hk.sz
      have:l.sz≤(i+cap)*l.sz:=Nat.le_mul_of_pos_left _ (by omega)
      omega
     have ha:=g7 (by omega)
     obtain⟨cs,ce,cf,hobj⟩:∃cs ce cf,w.heap[l.blk]? =some (.cells cs ce cf):=by
      have:=(hk.mem 0 hp).1
      simp only[World.cell?] at this
      split at this
      ·rename_i cs ce cf hh;exact⟨cs,ce,cf,hh⟩
      ·simp at this
     have hn:l.size≤cs.size:=by
      have:=(hk.mem (l.size-1) (by omega)).1
      simp only[World.cell?,hobj] at this
      simp at this
      omega
     obtain⟨i1,i2⟩:=hi.mark hB g1 hp hn
     refine⟨_,_,φ,?_,l5.refl _,i2,i1,.msl b i len lo ex l cap a g1 g2 g3 g4 g5 g6 g7⟩
     have hshape:w.shape? l.blk=some (ce,cs.size):=by
      simp only[World.shape?,hobj]
     rw[h1] at h2
     obtain rfl:e0=e:=by simpa using h2
     simp only[convert,run_underlying h1,run_underlying h3,markStringish,shape,Sem.run,freeze,ha,Sem.run_bind,Result.andThen_ok,hshape,beq_self_eq_true]
     rfl
   ·trivial
  ·trivial
 ·rename_i x' e h1 h2
  split
  ·rename_i sz dq cnt rows h3 h4 h5
   split
   ·rename_i hsz
    obtain⟨hsz,hnstr⟩:=hsz
    refine bo6 fun hcnt=> ?_
    intro bs hbs
    obtain⟨news,hsrc⟩:=bA2 hi hx h5 hsz (by omega) hcnt
    refine l7.pure hi ?_
    obtain⟨ns,hns1,hns2⟩:=cf6 hsrc hbs
    rcases hsrc.kind with⟨a,c,rfl,hcell⟩ | ⟨rfl,h0,h00⟩ | ⟨s',rfl,_,_,_⟩
    ·refine⟨.string (ns.foldl (fun r n=>r.push (UInt8.ofNat n.toNat)) ByteArray.empty),?_,.str _ _ ?_⟩
     ·rw[run_convert_bytes_string w s d e _ _ _ h1 h3 h2]
      refine run_bytesToString w a _ c ns ?_
      rw[←hns1]
      have:=run_loadCells_list (P:=P) w a news hcell
      rw[hsrc.len,Nat.mul_one] at this
      exact this
     ·rw[←hns2]
      have key:∀(l:List Int) (b:ByteArray),(l.foldl (fun r (n:Int)=>r.push (UInt8.ofNat n.toNat)) b).data.toList=b.data.toList++l.map fun n=>UInt8.ofNat n.toNat:=by
       intro l
       induction l with
       | nil=>intro b;simp
       | cons x l ih=>intro b;simp only[List.foldl_cons,List.map_cons];rw[ih];simp
      rw[key];simp
    ·subst h0
     simp[aP0] at hbs
     subst hbs
     exact⟨.string .empty,by rw[run_convert_bytes_string w s d e _ _ _ h1 h3 h2];simp[Conv.bytesToString],.str _ _ rfl⟩
    ·cases hx with
     | undef=>simp[aM4] at h5
     | str=>simp[bf6] at hnstr
   ·trivial
  ·trivial
 ·trivial
theorem cl1 (hi:Inv w Im φ σ) {t tx ty:TypeId}{k:IntKind}{s x:D}{sv xv:Value} (hs:i7 w Im φ s sv) (hx:i7 w Im φ x xv) (htx:P.underlying tx=some (.int k)):
  l7 P w Im φ σ (Builtin.append_ #[t,tx] ty #[sv,xv]) (bs2 P t s x σ):=by
 unfold bs2
 split
 ·rename_i e hu
  split
  ·rename_i n by_ zs sz rows k' m hn hby hzs
   obtain⟨rfl,rfl⟩:=hs.nilsl_inv
   obtain rfl:=hx.int_inv
   split
   ·rename_i hc
    obtain⟨hc1,hc2,hc3,hc4⟩:=hc
    intro hcond
    simp only[Bool.and_eq_true,decide_eq_true_eq] at hcond
    obtain⟨p1,p2⟩:=hcond
    have p2:m.toNat*by_≤140737488355328:=p2
    obtain⟨len,rfl⟩:=Int.eq_ofNat_of_zero_le (show 0≤m by omega)
    rw[Int.toNat_natCast] at p2 ⊢
    have hpos:0<len:=by omega
    cases hz:br0 P e with
    | none=>rw[hz] at hzs;cases hzs
    | some z=>
     obtain⟨ie,zv,g1,g2,hzr⟩:=bA6 (w:=w) (Im:=Im) (φ:=φ) hz
     have hzz:zs=z:=Option.some.inj (hzs.symm.trans hz)
     subst hzz
     have hien:ie.size=n:=by unfold K7 at hn;simpa[g1] using hn
     have hzsz:zv.cells.size=n:=by rw[←hzr.1,hc1]
     obtain⟨ie',g4,g5⟩:=bn6 hby
     obtain rfl:=Option.some.inj (g1.symm.trans g4)
     have hrr:=aV5 (w:=w) (Im:=Im) (φ:=φ) n len zs zv.cells hzr hc1 hc2
     have hzc:Builtin.zeroCells zv.cells len=(Array.range (len*n)).map (zv.cells[· %zv.cells.size]!):=by simp[Builtin.zeroCells,hzsz]
     have hsz:(Builtin.zeroCells zv.cells len).toList.length=(List.replicate len zs).length*n:=by rw[hzc];simp
     have hrel:∀(i j:Nat) (r:List D) (d:D),(List.replicate len zs)[i]? =some r→r[j]? =some d→∃u,(Builtin.zeroCells zv.cells len).toList[i*n+j]? =some u∧i7 w Im (if zs.any r6 then φ else []) d u:=fun i j r d h1 h2=>by
      obtain⟨u,hu,hur⟩:=hrr.2.2 i j r d h1 h2
      have hrz:=(List.mem_replicate.1 (List.mem_of_getElem? h1)).2
      refine⟨u,by rw[hzc,Array.getElem?_toList];exact hu,?_⟩
      rw[hrz] at h2
      exact aE5 hc4 (fun h=>h) h2 hur
     show l7 P w Im φ σ _ (.ok _ _)
     have hg:=aU6 (e:=e) hi (olds:= []) (ovs:= []) (dp:=false) (dq:=zs.any r6) (n:=n) (z:=zv.cells) hzsz hc2 (by simp) (by simp) (by simp) hsz (fun r hr=>by rw[(List.mem_replicate.1 hr).2];exact⟨hc1,hc4⟩) hrel (grownCap w (0+len) 0 e) (by simpa using aG2 w (0+len) 0 e)
     simp only[List.length_nil,Nat.zero_add,List.nil_append,Bool.false_or] at hg
     have q3:=Nat.le_mul_of_pos_right len hc3
     have q4:=Nat.mul_le_mul_right by_ (Room.nextslicecap_le' (need:=len) (old:=0) hpos)
     rw[Nat.mul_assoc] at q4
     refine⟨_,_,_,?_,hg⟩
     have hw:=bA7 (n:=(len:Int)) (by omega) (by omega)
     have h63' :¬(9223372036854775807<(len:Int)):=by omega
     have h48' :¬(281474976710656<Builtin.nextslicecap len 0*ie.bytes):=by rw[g5];omega
     have hb48:¬((len:Int)*(ie.bytes:Int)>281474976710656):=by
      have e1:(len:Int)*(ie.bytes:Int)=((len*by_:Nat):Int):=by rw[g5];simp
      rw[e1];omega
     have hn0:¬(len*n=0):=by
      have:=Nat.mul_pos hpos hc2
      omega
     have hne:¬len=0:=by omega
     have hnn:¬n=0:=by omega
     simp[Builtin.append_,run_underlying hu,run_underlying htx,sizeOf,typeInfo,zeroValue,g1,g2,asInt,asIntOf,hw,hb48,hien,hne,hnn,h63',h48',Question.forced,newRow,grownCap,Builtin.firstCells]
     rw[if_neg (show ¬((len:Int)<0) by omega),if_neg hn0]
   ·trivial
  ·trivial
 ·trivial
end
section
variable {P : Program} {w : World} {Im : Nat → Prop} {φ : o8} {σ : i4}
theorem cO6 (hi:Inv w Im φ σ) {t ty:TypeId}{x:D}{xv:Value} (hx:i7 w Im φ x xv):
  l7 P w Im φ σ (Builtin.len_ #[t] ty #[xv]) (bY6 P t x σ):=by
 unfold bY6
 split
 ·rename_i n e hu
  exact l7.pure hi ⟨_,by simp[Builtin.len_,run_underlying hu,goInt],.int _ _⟩
 ·rename_i e nl sz rows hu
  cases nl with
  | true=>obtain⟨rfl,rfl⟩:=hx.nilsl_inv;exact l7.pure hi ⟨_,by simp[Builtin.len_,run_underlying hu,goInt],.int _ _⟩
  | false=>
   rcases hx.sl_inv with⟨rfl,rfl⟩ | ⟨c,base,cap,a,rfl,-⟩
   ·exact l7.pure hi ⟨_,by simp[Builtin.len_,run_underlying hu,goInt],.int _ _⟩
   ·exact l7.pure hi ⟨_,by simp[Builtin.len_,run_underlying hu,goInt],.int _ _⟩
 ·rename_i e b i len lo ex hu
  obtain⟨l,-,⟨rfl,rfl,-⟩ | ⟨cap,a,rfl,-⟩⟩:=hx.msl_inv
  ·exact l7.pure hi ⟨_,by simp[Builtin.len_,run_underlying hu,goInt],.int _ _⟩
  ·exact l7.pure hi ⟨_,by simp[Builtin.len_,run_underlying hu,goInt],.int _ _⟩
 ·rename_i s hu
  obtain⟨b,rfl,rfl⟩:=hx.str_inv
  refine l7.pure hi ⟨.int .i64 (b.data.toList.length:Int),?_,.int _ _⟩
  simp[Builtin.len_,run_underlying hu,goInt]
 ·trivial
theorem cR6 (hi:Inv w Im φ σ) {t ty:TypeId}{x:D}{xv:Value} (hx:i7 w Im φ x xv):
  l7 P w Im φ σ (Builtin.cap_ #[t] ty #[xv]) (bZ5 P t x σ):=by
 unfold bZ5
 split
 ·rename_i e sz rows hu
  obtain⟨rfl,rfl⟩:=hx.nilsl_inv;exact l7.pure hi ⟨_,by simp[Builtin.cap_,run_underlying hu,goInt],.int _ _⟩
 ·rename_i e b i len lo hu
  obtain⟨l,-,⟨rfl,-,rfl⟩ | ⟨cap,a,rfl,-,-,h,-⟩⟩:=hx.msl_inv
  ·exact l7.pure hi ⟨_,by simp[Builtin.cap_,run_underlying hu,goInt],.int _ _⟩
  obtain rfl:=h rfl
  exact l7.pure hi ⟨_,by simp[Builtin.cap_,run_underlying hu,goInt],.int _ _⟩
 ·trivial
theorem cB1:∀(ds:List D) (vs:List Value) (k:IntKind) (x:Int) (d:D),ds.length=vs.length→(∀(i:Nat) (d:D) (v:Value),ds[i]? =some d→vs[i]? =some v→i7 w Im φ d v)→
  ds.foldl bI7 (some (.int k x))=some d→
  ∃k' y,d=.int k' y∧(vs.foldlM Builtin.min2 (.int k x)).run P w=.ok (.int k' y) w
 | [],[],k,x,d,_,_,h=>by simp at h;exact⟨k,x,h.symm,by simp⟩
 | e::ds,v::vs,k,x,d,hl,hr,h=>by
  have hev:=hr 0 e v rfl rfl
  have hnone:∀(l:List D),l.foldl bI7 (none:Option D)=none:=by
   intro l;induction l with
   | nil=>rfl
   | cons a l ih=>exact ih
  rw[List.foldl_cons] at h
  obtain⟨k2,y,rfl⟩:∃k2 y,e=.int k2 y:=by
   cases e<;>first | exact⟨_,_,rfl⟩ | (simp only[bI7] at h;rw[hnone] at h;cases h)
  obtain rfl:=hev.int_inv
  obtain⟨k',z,h1,h2⟩:=cB1 ds vs k _ d (by simpa using hl) (fun i d v a b=>hr (i+1) d v (by simpa using a) (by simpa using b)) h
  exact⟨k',z,h1,by simp only[List.foldlM_cons,Sem.run_bind,Builtin.min2,Sem.run_pure,Result.andThen_ok];exact h2⟩
 | [],_::_,_,_,_,hl,_,_=>by simp at hl
 | _::_,[],_,_,_,hl,_,_=>by simp at hl
theorem ct8:∀(ds:List D) (vs:List Value) (k:IntKind) (x:Int) (d:D),ds.length=vs.length→(∀(i:Nat) (d:D) (v:Value),ds[i]? =some d→vs[i]? =some v→i7 w Im φ d v)→
  ds.foldl bG8 (some (.int k x))=some d→
  ∃k' y,d=.int k' y∧(vs.foldlM Builtin.max2 (.int k x)).run P w=.ok (.int k' y) w
 | [],[],k,x,d,_,_,h=>by simp at h;exact⟨k,x,h.symm,by simp⟩
 | e::ds,v::vs,k,x,d,hl,hr,h=>by
  have hev:=hr 0 e v rfl rfl
  have hnone:∀(l:List D),l.foldl bG8 (none:Option D)=none:=by
   intro l;induction l with
   | nil=>rfl
   | cons a l ih=>exact ih
  rw[List.foldl_cons] at h
  obtain⟨k2,y,rfl⟩:∃k2 y,e=.int k2 y:=by
   cases e<;>first | exact⟨_,_,rfl⟩ | (simp only[bG8] at h;rw[hnone] at h;cases h)
  obtain rfl:=hev.int_inv
  obtain⟨k',z,h1,h2⟩:=ct8 ds vs k _ d (by simpa using hl) (fun i d v a b=>hr (i+1) d v (by simpa using a) (by simpa using b)) h
  exact⟨k',z,h1,by simp only[List.foldlM_cons,Sem.run_bind,Builtin.max2,Sem.run_pure,Result.andThen_ok];exact h2⟩
 | [],_::_,_,_,_,hl,_,_=>by simp at hl
 | _::_,[],_,_,_,hl,_,_=>by simp at hl
variable (w Im φ) in
def E3 (ds:List D) (vs:List Value):Prop:=ds.length=vs.length∧∀(i:Nat) (d:D) (v:Value),ds[i]? =some d→vs[i]? =some v→i7 w Im φ d v
theorem bB5 {ρ:Operand→D}{ρc:Operand→Value} (hρ:∀x,i7 w Im φ (ρ x) (ρc x)) (args:List Operand):E3 w Im φ (args.map ρ) (args.map ρc):=
 ⟨by simp,fun i d v h1 h2=>by
  simp only[List.getElem?_map,Option.map_eq_some_iff] at h1 h2
  obtain⟨x,hx,rfl⟩:=h1
  obtain⟨y,hy,rfl⟩:=h2
  obtain rfl:=Option.some.inj (hx.symm.trans hy)
  exact hρ _⟩
theorem E3.one {x:D}{vs:List Value} (h:E3 w Im φ [x] vs):∃v,vs= [v]∧i7 w Im φ x v:=by
 obtain⟨h1,h2⟩:=h
 match vs,h1 with
 | [v],_=>exact⟨v,rfl,h2 0 x v rfl rfl⟩
theorem E3.two {x y:D}{vs:List Value} (h:E3 w Im φ [x,y] vs):∃v u,vs= [v,u]∧i7 w Im φ x v∧i7 w Im φ y u:=by
 obtain⟨h1,h2⟩:=h
 match vs,h1 with
 | [v,u],_=>exact⟨v,u,rfl,h2 0 x v rfl rfl,h2 1 y u rfl rfl⟩
theorem cl3 (hi:Inv w Im φ σ) {b:Builtin}{ts:Array TypeId}{ty:TypeId}{consts:Array Bool}{ds:List D}{vs:Array Value} (h:E3 w Im φ ds vs.toList):
  aq2 P w Im φ σ (builtin b ts ty consts vs) (ao0 P b ts.toList ds σ):=by
 have harr:∀l:List Value,vs.toList=l→vs=l.toArray:=fun l hl=>by rw[←hl]
 have hts:∀l:List TypeId,ts.toList=l→ts=l.toArray:=fun l hl=>by rw[←hl]
 unfold ao0
 split
 ·rename_i x t h1
  obtain⟨v,hv,hx⟩:=h.one
  obtain rfl:=harr _ hv
  obtain rfl:=hts _ h1
  exact l7.toA (cO6 hi hx)
 ·rename_i x t h1
  obtain⟨v,hv,hx⟩:=h.one
  obtain rfl:=harr _ hv
  obtain rfl:=hts _ h1
  exact l7.toA (cR6 hi hx)
 ·rename_i s x t t' h1
  obtain⟨v,u,hv,hs,hx⟩:=h.two
  obtain rfl:=harr _ hv
  obtain rfl:=hts _ h1
  split
  ·rename_i e hd hk
   refine l7.toA (bI0 hi hs hx hd (.inl ⟨_,rfl⟩) (fun b hb=> ?_) (fun a n c _=>⟨_,rfl⟩))
   subst hb
   cases hx<;>simp[bK8] at hk
  ·rename_i hd hk
   refine l7.toA (bI0 hi hs hx hd (.inr rfl) (fun b hb=>rfl) (fun a n c hb=> ?_))
   subst hb
   cases hx<;>simp[bK8] at hk
  ·rename_i k hd hk
   exact l7.toA (cl1 hi hs hx hd)
  ·trivial
 ·rename_i d s t t' h1
  obtain⟨v,u,hv,hd,hs⟩:=h.two
  obtain rfl:=harr _ hv
  obtain rfl:=hts _ h1
  exact l7.toA (cG4 hi hd hs)
 ·rename_i s t h1
  obtain⟨v,hv,hs⟩:=h.one
  obtain rfl:=harr _ hv
  obtain rfl:=hts _ h1
  exact l7.toA (cy6 hi hs)
 ·refine l7.toA (l7.opt hi fun d hd=> ?_)
  unfold mnD at hd
  split at hd
  ·rename_i k x r
   obtain⟨h1,h2⟩:=h
   cases hvs:vs.toList with
   | nil=>rw[hvs] at h1;simp at h1
   | cons v rest=>
    rw[hvs] at h1 h2
    obtain rfl:=(h2 0 _ v rfl rfl).int_inv
    obtain⟨k',y,rfl,h3⟩:=cB1 r rest k x d (by simpa using h1) (fun i d v a b=>h2 (i+1) d v (by simpa using a) (by simpa using b)) hd
    exact⟨_,by simp only[Builtin.min_,hvs];exact h3,.int _ _⟩
  ·cases hd
 ·refine l7.toA (l7.opt hi fun d hd=> ?_)
  unfold mxD at hd
  split at hd
  ·rename_i k x r
   obtain⟨h1,h2⟩:=h
   cases hvs:vs.toList with
   | nil=>rw[hvs] at h1;simp at h1
   | cons v rest=>
    rw[hvs] at h1 h2
    obtain rfl:=(h2 0 _ v rfl rfl).int_inv
    obtain⟨k',y,rfl,h3⟩:=ct8 r rest k x d (by simpa using h1) (fun i d v a b=>h2 (i+1) d v (by simpa using a) (by simpa using b)) hd
    exact⟨_,by simp only[Builtin.max_,hvs];exact h3,.int _ _⟩
  ·cases hd
 ·trivial
theorem bp6 {g : FuncId} (h : be1 P g = true) (vs : Array Value) : (callFunc g vs).run P w = .ok (.enter g vs) w := by
  unfold be1 at h
  cases hf : P.funcs[g]? with
  | none => simp [hf] at h
  | some fn =>
    simp only [hf, Bool.and_eq_true, Bool.not_eq_true'] at h
    have h2 : fn.body.isNone = false := by cases hb : fn.body <;> simp_all
    have h3 : ¬ fn.name = "runtime.NumGoroutine" := by simpa using h.2
    have h4 : ¬ fn.body = none := fun e => by rw [e] at h2; simp at h2
    simp [callFunc, hf, h3, h4]
theorem cH6 (hi:Inv w Im φ σ) {ρ:Operand→D}{ρc:Operand→Value} (hρ:∀x,i7 w Im φ (ρ x) (ρc x)) (c:Call) (ty:TypeId):
  aq2 P w Im φ σ (do let d ←resolve ρc c ty;invoke d.target d.args) (callD P c ρ σ):=by
 have hargs:=bB5 hρ c.args.toList
 unfold callD
 split
 ·rename_i b hb
  have hr:(do let d ←resolve ρc c ty;invoke d.target d.args:Sem Next)=builtin b c.argTypes ty (c.args.map fun | .const _=>true | _=>false) (c.args.map ρc):=by
   simp only[resolve,hb];rfl
  rw[hr]
  exact cl3 hi (by simpa using hargs)
 ·rename_i f hf
  have hfr:=hρ f
  split
  ·rename_i g first caps hg
   rw[hg] at hfr
   split
   ·rename_i hc
    cases hv:ρc f with
    | func fn vf vc=>
     rw[hv] at hfr
     cases hfr with
     | fn _ _ _ _ _ h1 h2 h3 h4=>
      refine⟨vf++c.args.map ρc++vc,?_,by simp[h1,h2],fun i d v a b=> ?_⟩
      ·simp[resolve,hf,Deferred.ofValue,hv,invoke,bp6 hc]
      ·rw[List.append_assoc] at a
       rw[Array.append_assoc] at b
       by_cases q1:i<first.length
       ·rw[List.getElem?_append_left q1] at a
        rw[Array.getElem?_append_left (by omega)] at b
        exact h3 i d v a b
       ·rw[List.getElem?_append_right (by omega)] at a
        rw[Array.getElem?_append_right (by omega)] at b
        by_cases q2:i-first.length<c.args.size
        ·rw[List.getElem?_append_left (by simpa using q2)] at a
         rw[Array.getElem?_append_left (by simp;omega),←h1] at b
         exact hargs.2 _ d v a (by simpa using b)
        ·rw[List.getElem?_append_right (by simp;omega)] at a
         rw[Array.getElem?_append_right (by simp;omega),←h1] at b
         exact h4 _ d v a (by simpa using b)
    | _=>rw[hv] at hfr;cases hfr
   ·trivial
  ·rename_i l hg
   rw[hg] at hfr
   cases hv:ρc f with
   | func fn vf vc=>
    rw[hv] at hfr
    cases hfr with
    | yld l=>
     refine⟨c.args.map ρc,?_,by simp,fun i d v a b=>hargs.2 i d v a (by simpa using b)⟩
     simp[resolve,hf,Deferred.ofValue,hv,invoke]
   | _=>rw[hv] at hfr;cases hfr
  ·trivial
 ·trivial
theorem aZ2 (hi:Inv w Im φ σ) {ρ:Operand→D}{ρc:Operand→Value} (hρ:∀x,i7 w Im φ (ρ x) (ρc x)) (o:Oper):aq2 P w Im φ σ (execOp ρc o) (R8 P ρ o σ):=by
 unfold R8 execOp
 cases hop:o.op
 case move x=>
  simp only[]
  exact⟨_,w,φ,.inl rfl,T9.refl hi (hρ x)⟩
 case assign x=>
  simp only[]
  exact⟨_,w,φ,.inl rfl,T9.refl hi (hρ x)⟩
 case pick c a b=>
  simp only[]
  split
  ·rename_i x hx
   have hc:=hρ c
   rw[hx] at hc
   have hcv:=hc.bool_inv
   show aq2 P w Im φ σ _ (.ok (if x then ρ a else ρ b) σ)
   refine⟨_,w,φ,.inl (by simp[hcv,asBool];rfl),T9.refl hi ?_⟩
   cases x
   ·exact hρ b
   ·exact hρ a
  ·trivial
 case alloc t=>
  simp only[]
  exact l7.toA (ck6 hi)
 case box t x=>
  simp only[]
  exact l7.toA (cQ7 hi (hρ x))
 case build t parts=>
  simp only[]
  obtain⟨h1,h2⟩:=bQ1 hρ parts
  exact l7.toA (cC5 hi h1 h2)
 case buildSlice t len parts=>
  simp only[]
  obtain⟨h1,h2⟩:=bQ1 hρ parts
  exact l7.toA (bO6 hi h1 h2)
 case load t a=>
  simp only[]
  exact l7.toA (cI8 hi (hρ a))
 case store t a x=>
  simp only[]
  exact by9 (cx7 hi (hρ a) (hρ x))
 case nilCheck x=>
  simp only[]
  have hx:=hρ x
  generalize ρ x=d at hx ⊢
  generalize ρc x=v at hx ⊢
  cases d<;>first | exact True.intro | skip
  ·obtain⟨l,hl,rfl⟩:=hx.ptr_inv
   exact⟨_,w,φ,.inl rfl,T9.refl hi hx⟩
  ·obtain⟨c,base,rfl,-⟩:=hx.iptr_inv
   exact⟨_,w,φ,.inl rfl,T9.refl hi hx⟩
  ·obtain⟨f,va,vb,rfl⟩:∃f va vb,v=.func (.func f) va vb:=by cases hx;exact⟨_,_,_,rfl⟩
   exact⟨_,w,φ,.inl rfl,T9.refl hi hx⟩
  ·obtain⟨t,va,rfl⟩:∃t va,v=.iface t va:=by cases hx;exact⟨_,_,rfl⟩
   exact⟨_,w,φ,.inl rfl,T9.refl hi hx⟩
 case binOp op t x y yt=>
  simp only[]
  exact l7.toA (cR0 hi op t x y (hρ x) (hρ y))
 case unOp op t x=>
  simp only[]
  exact l7.toA (cY7 hi op (hρ x))
 case convert s d x=>
  simp only[]
  exact l7.toA (cI2 hi (hρ x))
 case makeFunc fn first caps=>
  cases fn<;>first | trivial | skip
  rename_i f
  simp only[]
  refine⟨_,w,φ,.inl (by simp[Instr.makeFunc];rfl),T9.refl hi ?_⟩
  obtain⟨h1,h2⟩:=bB5 hρ first.toList
  obtain⟨h3,h4⟩:=bB5 hρ caps.toList
  exact .fn _ _ _ _ _ (by simp) (by simp) (fun i d v a b=>h2 i d v a (by simpa using b)) (fun i d v a b=>h4 i d v a (by simpa using b))
 case makeSlice t l c=>
  simp only[]
  have hl:=hρ l
  have hc:=hρ c
  split
  ·rename_i k a k' b h1 h2
   rw[h1] at hl
   rw[h2] at hc
   rw[hl.int_inv,hc.int_inv]
   refine l7.toA (bY2 hi fun hs=> ?_)
   obtain rfl:l=c:=by
    cases l<;>cases c<;>simp[cc8] at hs
    rw[hs]
   rw[h1] at h2
   cases h2
   rfl
  ·trivial
 case slice t x lo hh mx=>
  simp only[]
  split
  ·rename_i l h' m h1 h2 h3
   exact l7.toA (cx0 hi (hρ x) (bB3 hρ h1) (bB3 hρ h2) (bB3 hρ h3))
  ·trivial
 case fieldAddr t x f=>
  simp only[]
  exact l7.toA (bU7 hi (hρ x) f)
 case field t x f=>
  simp only[]
  exact l7.toA (l7.opt hi fun d hd=>cx5 (hρ x) hd)
 case indexAddr t x i=>
  simp only[]
  have hr:=hρ i
  split
  ·rename_i k n h1
   rw[h1] at hr
   rw[hr.int_inv]
   exact l7.toA (bW8 hi (hρ x) k n)
  ·trivial
 case index t x i=>
  simp only[]
  have hr:=hρ i
  split
  ·rename_i k n h1
   rw[h1] at hr
   rw[hr.int_inv]
   exact l7.toA (cz2 hi (hρ x) k n)
  ·trivial
 case extract x i=>
  simp only[]
  have hr:=hρ x
  split
  ·rename_i vs h1
   rw[h1] at hr
   obtain⟨us,hv,h2,h3⟩:=hr.tup_inv
   refine l7.toA (l7.opt hi fun d hd=> ?_)
   have hlt:=(List.getElem?_eq_some_iff.1 hd).1
   exact⟨us[i]'(by omega),by simp[Instr.extract,hv,show i<us.size by omega],h3 i d _ hd (by simp)⟩
  ·trivial
 case makeInterface t x=>
  simp only[]
  split
  ·trivial
  ·rename_i d hni hd
   have hr:=hρ x
   have key:∀d',ρ x=d' →aq2 P w Im φ σ (do pure (.value (←Instr.makeInterface t (ρc x)))) (.ok (.iface t d') σ):=fun d' hd' =>by
    rw[hd'] at hr
    refine⟨.iface t (ρc x),w,φ,.inl ?_,T9.refl hi (.iface t _ _ hr)⟩
    cases d<;>first | exact absurd rfl (hni _) | simp[Instr.makeInterface,run_underlying hd]
   split
   ·trivial
   ·trivial
   ·exact key _ rfl
  ·trivial
 case call c=>
  simp only[]
  exact cH6 hi hρ c _
 all_goals trivial
end
section
variable {w : World} {Im Im' : Nat → Prop} {φ φ' : o8} {σ : i4}
theorem aJ0 {f:D→Option D}:∀{ds ds' :List D},L2 f ds=some ds' →ds'.length=ds.length∧∀(i:Nat) (d d' :D),ds[i]? =some d→ds'[i]? =some d' →f d=some d'
 | [],ds',h=>by simp[L2] at h;subst h;exact⟨rfl,fun i d d' h=>by simp at h⟩
 | d::r,ds',h=>by
  simp only[L2] at h
  split at h
  ·rename_i e s h1 h2
   obtain rfl:=Option.some.inj h
   obtain⟨h3,h4⟩:=aJ0 h2
   refine⟨by simp[h3],fun i d d' a b=> ?_⟩
   cases i with
   | zero=>simp at a b;subst a;subst b;exact h1
   | succ i=>exact h4 i d d' (by simpa using a) (by simpa using b)
  ·cases h
theorem aw8 {f:D→Option D}:∀{rs rs' :List (List D)},an1 f rs=some rs' →rs'.length=rs.length∧∀(i:Nat) (r r' :List D),rs[i]? =some r→rs'[i]? =some r' →L2 f r=some r'
 | [],rs',h=>by simp[an1] at h;subst h;exact⟨rfl,fun i d d' h=>by simp at h⟩
 | d::r,rs',h=>by
  simp only[an1] at h
  split at h
  ·rename_i e s h1 h2
   obtain rfl:=Option.some.inj h
   obtain⟨h3,h4⟩:=aw8 h2
   refine⟨by simp[h3],fun i d d' a b=> ?_⟩
   cases i with
   | zero=>simp at a b;subst a;subst b;exact h1
   | succ i=>exact h4 i d d' (by simpa using a) (by simpa using b)
  ·cases h
theorem ab7 {α β:Type}{l:List α}{m:List β} (h:l.length=m.length) {i:Nat}{y:β} (hy:m[i]? =some y):∃x,l[i]? =some x:=by
 have:=(List.getElem?_eq_some_iff.1 hy).1
 exact⟨l[i]'(by omega),by simp⟩
theorem aR0 {h:D→Option D} (hIm:∀c,Im c→Im' c)
  (hp:∀b i o d' v,i7 w Im φ (.ptr b i o) v→h (.ptr b i o)=some d' →i7 w Im' φ' d' v)
  (hm:∀b i len lo ex d' v,i7 w Im φ (.msl b i len lo ex) v→h (.msl b i len lo ex)=some d' →i7 w Im' φ' d' v):
  ∀(n:Nat) (d d' :D) (v:Value),i7 w Im φ d v→tr h n d=some d' →i7 w Im' φ' d' v
 | 0,_,_,_,_,hd=>by simp[tr] at hd
 | n+1,d,d',v,hr,hd=>by
  have IH:=aR0 hIm hp hm n
  have lst:∀(ds ds' :List D) (vs:Array Value),L2 (tr h n) ds=some ds' →ds.length=vs.size→(∀(i:Nat) (d:D) (v:Value),ds[i]? =some d→vs[i]? =some v→i7 w Im φ d v)→
    ds'.length=vs.size∧∀(i:Nat) (d:D) (v:Value),ds'[i]? =some d→vs[i]? =some v→i7 w Im' φ' d v:=fun ds ds' vs h1 h2 h3=>by
   obtain⟨h4,h5⟩:=aJ0 h1
   refine⟨by omega,fun i d v a b=> ?_⟩
   obtain⟨d0,hd0⟩:=ab7 h4.symm a
   exact IH d0 d v (h3 i d0 v hd0 b) (h5 i d0 d hd0 a)
  cases hr with
  | undef v=>simp[tr] at hd;subst hd;exact .undef _
  | bool b=>simp[tr] at hd;subst hd;exact .bool _
  | int k n=>simp[tr] at hd;subst hd;exact .int _ _
  | str s l e=>simp[tr] at hd;subst hd;exact .str _ _ e
  | nilp=>simp[tr] at hd;subst hd;exact .nilp
  | ptr b i o l e=>exact hp _ _ _ _ _ (.ptr b i o l e) (by simpa[tr] using hd)
  | iptr sz rows i o c base vf e1 e2 e3 e4=>
   simp[tr] at hd;subst hd
   exact .iptr _ _ _ _ _ _ vf (fun h=>hIm _ (e1 h)) e2 e3 (fun i j r d a b=>(e4 i j r d a b).mono hIm (fun _ _=>rfl) (l5.refl _))
  | nilsl sz=>simp[tr] at hd;subst hd;exact .nilsl _
  | nilsl2 sz=>simp[tr] at hd;subst hd;exact .nilsl2 _
  | mnil b i ex l e=>exact hm _ _ _ _ _ _ _ (.mnil b i ex l e) (by simpa[tr] using hd)
  | sl sz rows c base cap vf a ha e1 e2 e3 e4 e5=>
   simp[tr] at hd;subst hd
   exact .sl _ _ _ _ _ vf a ha (fun h=>hIm _ (e1 h)) e2 e3 e4 (fun i j r d a b=>(e5 i j r d a b).mono hIm (fun _ _=>rfl) (l5.refl _))
  | msl b i len lo ex l cap a e1 e2 e3 e4 e5 e6 e7=>exact hm _ _ _ _ _ _ _ (.msl b i len lo ex l cap a e1 e2 e3 e4 e5 e6 e7) (by simpa[tr] using hd)
  | fn f first caps vf vc e1 e2 e3 e4=>
   simp only[tr] at hd
   split at hd
   ·rename_i a c h1 h2
    obtain rfl:=Option.some.inj hd
    obtain⟨g1,g2⟩:=lst _ _ _ h1 e1 e3
    obtain⟨g3,g4⟩:=lst _ _ _ h2 e2 e4
    exact .fn _ _ _ _ _ g1 g3 g2 g4
   ·cases hd
  | nilfn=>simp[tr] at hd;subst hd;exact .nilfn
  | agg cs vs e1 e2=>
   simp only[tr,Option.map_eq_some_iff] at hd
   obtain⟨cs',h1,rfl⟩:=hd
   obtain⟨g1,g2⟩:=lst _ _ _ h1 e1 e2
   exact .agg _ _ g1 g2
  | tup cs vs e1 e2=>
   simp only[tr,Option.map_eq_some_iff] at hd
   obtain⟨cs',h1,rfl⟩:=hd
   obtain⟨g1,g2⟩:=lst _ _ _ h1 e1 e2
   exact .tup _ _ g1 g2
  | iface t d v e=>
   simp only[tr,Option.map_eq_some_iff] at hd
   obtain⟨d2,h1,rfl⟩:=hd
   exact .iface _ _ _ (IH _ _ _ e h1)
  | nili=>simp[tr] at hd;subst hd;exact .nili
  | yld l=>simp[tr] at hd;subst hd;exact .yld l
  | arr cs vs h1 h2=>simp[tr] at hd;subst hd;exact .arr cs vs h1 fun i d v a b=>(h2 i d v a b).mono hIm (fun _ _=>rfl) (l5.refl _)
theorem as4 {h:D→Option D} (hs:∀d d',t9 d=true→h d=some d' →t9 d' =true):∀(n:Nat) (d d' :D),t9 d=true→tr h n d=some d' →t9 d' =true
 | 0,_,_,_,hd=>by simp[tr] at hd
 | n+1,d,d',hsd,hd=>by
  cases d<;>simp[t9] at hsd
  case ptr=>exact hs _ _ rfl (by simpa[tr] using hd)
  case msl=>exact hs _ _ rfl (by simpa[tr] using hd)
  case fn=>
   simp only[tr] at hd
   split at hd
   ·obtain rfl:=Option.some.inj hd;rfl
   ·cases hd
  case iface=>
   simp only[tr,Option.map_eq_some_iff] at hd
   obtain⟨d2,h1,rfl⟩:=hd
   rfl
  all_goals (simp[tr] at hd;subst hd;rfl)
theorem cQ6 {f:D→Option D} (hf:∀d d',t9 d=true→f d=some d' →t9 d' =true) {sz:Nat}{r r' :List D} (h:L2 f r=some r') (hr:S8 sz r):S8 sz r' :=by
 obtain⟨h1,h2⟩:=aJ0 h
 refine⟨by rw[h1];exact hr.1,List.all_eq_true.2 fun d hd=> ?_⟩
 obtain⟨i,hi⟩:=List.getElem?_of_mem hd
 obtain⟨d0,hd0⟩:=ab7 h1.symm hi
 exact hf d0 d (List.all_eq_true.1 hr.2 d0 (List.mem_of_getElem? hd0)) (h2 i d0 d hd0 hi)
theorem cP9 {f:D→Option D} (hf:∀d d',t9 d=true→f d=some d' →t9 d' =true) {sz:Nat}{rs rs' :List (List D)} (h:an1 f rs=some rs') (hr:∀r∈rs,S8 sz r):∀r∈rs',S8 sz r:=by
 obtain⟨h1,h2⟩:=aw8 h
 intro r hm
 obtain⟨i,hi⟩:=List.getElem?_of_mem hm
 obtain⟨r0,hr0⟩:=ab7 h1.symm hi
 exact cQ6 hf (h2 i r0 r hr0 hi) (hr r0 (List.mem_of_getElem? hr0))
theorem bp1 {f:D→Option D}{ψ ψ' :o8} (hf:∀d d' v,i7 w Im ψ d v→f d=some d' →i7 w Im' ψ' d' v) (hs:∀d d',t9 d=true→f d=some d' →t9 d' =true)
  {c base sz:Nat}{rows rows' :List (List D)} (h:an1 f rows=some rows') (hr:H0 w Im ψ c base sz rows):H0 w Im' ψ' c base sz rows' :=by
 obtain⟨h1,h2⟩:=aw8 h
 refine⟨cP9 hs h hr.1,fun i j r d a b=> ?_⟩
 obtain⟨r0,hr0⟩:=ab7 h1.symm a
 obtain⟨h3,h4⟩:=aJ0 (h2 i r0 r hr0 a)
 obtain⟨d0,hd0⟩:=ab7 h3.symm b
 obtain⟨v,hv,hrel⟩:=hr.2 i j r0 d0 hr0 hd0
 exact⟨v,hv,hf d0 d v hrel (h4 j d0 d hd0 b)⟩
theorem H0.choose {ψ:o8}{c base sz:Nat}{rows:List (List D)} (h:H0 w Im ψ c base sz rows):∃vf:Nat→Nat→Value,
  (∀(i j:Nat) (r:List D) (d:D),rows[i]? =some r→r[j]? =some d→w.cell? ⟨c,base+i*sz+j,none⟩=some (vf i j))∧
  (∀(i j:Nat) (r:List D) (d:D),rows[i]? =some r→r[j]? =some d→i7 w Im ψ d (vf i j)):=by
 refine⟨fun i j=>(w.cell? ⟨c,base+i*sz+j,none⟩).getD undef,fun i j r d a b=> ?_,fun i j r d a b=> ?_⟩
 ·obtain⟨v,hv,_⟩:=h.2 i j r d a b
  simp only[hv];rfl
 ·obtain⟨v,hv,hr⟩:=h.2 i j r d a b
  simp only[hv];exact hr
theorem H0.iptr {c base sz:Nat}{rows:List (List D)} (h:H0 w Im [] c base sz rows) (hc:rows≠ []→Im c) (i o:Nat):i7 w Im φ (.iptr sz rows i o) (.pointer (some ⟨c,base+i*sz+o,none⟩)):=by
 obtain⟨vf,h1,h2⟩:=h.choose
 exact .iptr _ _ _ _ _ _ vf hc h.1 h1 h2
theorem H0.sl {c base sz:Nat}{rows:List (List D)} (h:H0 w Im [] c base sz rows) (hc:rows≠ []→Im c) {cap:Nat} (hcap:rows.length≤cap):i7 w Im φ (.sl false sz rows) (.slice (some ⟨c,base,none⟩) rows.length cap):=by
 obtain⟨vf,h1,h2⟩:=h.choose
 exact .sl _ _ _ _ _ vf _ (fun _=>rfl) hc h.1 hcap h1 h2
theorem H0.im {ψ:o8}{c base sz:Nat}{rows:List (List D)} (h:H0 w Im ψ c base sz rows) (hIm:∀c,Im c→Im' c):H0 w Im' ψ c base sz rows:=
 ⟨h.1,fun i j r d a b=>let ⟨v,hv,hr⟩:=h.2 i j r d a b;⟨v,hv,hr.mono hIm (fun _ _=>rfl) (l5.refl _)⟩⟩
theorem aq4 (ρ:Nat→Option Nat):∀d d',t9 d=true→M8 ρ d=some d' →t9 d' =true:=fun d d' h1 h2=>by
 cases d<;>simp[t9] at h1<;>simp only[M8,Option.map_eq_some_iff,Option.some.injEq] at h2
 all_goals first | (obtain⟨c,_,rfl⟩:=h2;rfl) | (subst h2;rfl)
theorem ak4 {ρ:Nat→Option Nat} (hIm:∀c,Im c→Im' c) (hρ:∀(b c:Nat) (l:Q3),ρ b=some c→φ[b]? =some l→φ'[c]? =some l) (n:Nat) (d d' :D) (v:Value) (hr:i7 w Im φ d v) (hd:tr (M8 ρ) n d=some d'):i7 w Im' φ' d' v:=by
 refine aR0 hIm (fun b i o d' v hr hd=> ?_) (fun b i len lo ex d' v hr hd=> ?_) n d d' v hr hd
 ·simp only[M8,Option.map_eq_some_iff] at hd
  obtain⟨c,hc,rfl⟩:=hd
  obtain⟨l,hl,rfl⟩:=hr.ptr_inv
  exact .ptr _ _ _ _ (hρ _ _ _ hc hl)
 ·simp only[M8,Option.map_eq_some_iff] at hd
  obtain⟨c,hc,rfl⟩:=hd
  obtain⟨l,hl,⟨rfl,rfl,rfl⟩ | ⟨cap,a,rfl,h1,h2,h3,h4,h5,h6⟩⟩:=hr.msl_inv
  ·exact .mnil _ _ _ _ (hρ _ _ _ hc hl)
  exact .msl _ _ _ _ _ _ _ _ (hρ _ _ _ hc hl) h1 h2 h3 h4 h5 h6
theorem aH6 (n:Nat) (d d' :D) (v:Value) (hr:i7 w Im φ d v) (hd:tr aN0 n d=some d'):i7 w Im [] d' v:=
 aR0 (fun _ h=>h) (fun b i o d' v hr hd=>by simp[aN0] at hd) (fun b i len lo ex d' v hr hd=>by simp[aN0] at hd) n d d' v hr hd
theorem bQ5 {m:Nat}:∀(k:Nat) (st:Bool) (d d' :D),t9 d=true→W3 σ m st k d=some d' →t9 d' =true:=fun k st d d' h1 h2=>by
 cases k with
 | zero=>simp[W3] at h2
 | succ k=>
  cases d<;>simp only[W3,Bool.cond_eq_ite] at h2<;>try (cases h2;done)
  all_goals
   (repeat' (first | split at h2))
   all_goals first | (cases h2;done) | (obtain rfl:=Option.some.inj h2;rfl)
theorem ad4 (hi:Inv w Im φ σ) {m:Nat} (hIm:∀c,Im c→Im' c) (hown:∀(b:Nat) (B:A5) (l:Q3),m≤b→sget σ b=some B→φ[b]? =some l→0<l.size→Im' l.blk):
  ∀(n:Nat) (strict:Bool) (φ' :o8),(strict=false→∀(b:Nat) (l:Q3),b<m→φ[b]? =some l→φ'[b]? =some l)→∀(d d' :D) (v:Value),(∀b i o,d=.ptr b i o→True)→i7 w Im φ d v→W3 σ m strict n d=some d' →i7 w Im' φ' d' v
 | 0,_,_,_,_,_,_,_,_,hd=>by simp[W3] at hd
 | n+1,strict,φ',hφ',d,d',v,_,hr,hd=>by
  have IH:=ad4 hi hIm hown n true [] (fun h=>by cases h)
  have htr:∀(d d' :D) (v:Value),i7 w Im φ d v→tr (W3 σ m true n) l8 d=some d' →i7 w Im' [] d' v:=fun d d' v h1 h2=>
   aR0 hIm (fun b i o d' v a b' =>IH _ d' v (fun _ _ _ _=>trivial) a b') (fun b i len lo ex d' v a b' =>IH _ d' v (fun _ _ _ _=>trivial) a b') l8 d d' v h1 h2
  have hscal:=fun k st=>bQ5 (σ:=σ) (m:=m) k st
  have hts:∀d d',t9 d=true→tr (W3 σ m true n) l8 d=some d' →t9 d' =true:=as4 (hscal n true) l8
  cases d with
  | ptr b i o=>
   obtain⟨l,hl,rfl⟩:=hr.ptr_inv
   simp only[W3,Bool.cond_eq_ite] at hd
   split at hd
   ·rename_i hlt
    split at hd
    ·cases hd
    ·rename_i hst
     obtain rfl:=Option.some.inj hd
     exact .ptr _ _ _ _ (hφ' (by simpa using hst) b l (Nat.lt_of_succ_le (Nat.le_of_ble_eq_true hlt)) hl)
   ·rename_i hlt
    have hge:m≤b:=by
     rcases Nat.lt_or_ge b m with h | h
     ·exact absurd (Nat.ble_eq_true_of_le h) hlt
     ·exact h
    split at hd
    ·rename_i B hB
     obtain⟨l',hl',hk⟩:=hi.loc hB
     obtain rfl:=Option.some.inj (hl.symm.trans hl')
     have him:=hown b B l hge hB hl
     split at hd
     ·rename_i hdp
      split at hd
      ·rename_i rows hrows
       obtain rfl:=Option.some.inj hd
       rw[hk.sz]
       exact(bp1 htr hts hrows hk.rowsAt').iptr (fun hne=>him (hk.size (fun e=>hne (List.eq_nil_of_length_eq_zero (by rw[(aw8 hrows).1,e];rfl))))) i o
      ·cases hd
     ·rename_i hdp
      obtain rfl:=Option.some.inj hd
      have h5:=hk.rowsAt
      simp only[hdp] at h5
      rw[hk.sz]
      exact(h5.im hIm).iptr (fun hne=>him (hk.size hne)) i o
    ·cases hd
  | msl b i len lo ex=>
   obtain⟨l,hl,hv⟩:=hr.msl_inv
   simp only[W3,Bool.cond_eq_ite] at hd
   split at hd
   ·rename_i hlt
    split at hd
    ·cases hd
    ·rename_i hst
     obtain rfl:=Option.some.inj hd
     rcases hv with⟨rfl,rfl,rfl⟩ | ⟨cap,a,rfl,h1,h2,h3,h4,h5,h6⟩
     ·exact .mnil _ _ _ _ (hφ' (by simpa using hst) b l (Nat.lt_of_succ_le (Nat.le_of_ble_eq_true hlt)) hl)
     exact .msl _ _ _ _ _ _ _ _ (hφ' (by simpa using hst) b l (Nat.lt_of_succ_le (Nat.le_of_ble_eq_true hlt)) hl) h1 h2 h3 h4 h5 h6
   ·rename_i hlt
    have hge:m≤b:=by
     rcases Nat.lt_or_ge b m with h | h
     ·exact absurd (Nat.ble_eq_true_of_le h) hlt
     ·exact h
    split at hd
    ·rename_i B hB
     obtain⟨l',hl',hk⟩:=hi.loc hB
     obtain rfl:=Option.some.inj (hl.symm.trans hl')
     have him:=hown b B l hge hB hl
     split at hd
     ·rename_i hble
      have hble' :=Nat.le_of_ble_eq_true hble
      have hlen:((B.rows.drop i).take len).length=len:=by simp;omega
      have key:∀rows,rows.length=len→H0 w Im' [] l.blk (l.base+i*B.sz) B.sz rows→i7 w Im' φ' (.sl false B.sz rows) v:=fun rows q1 q2=>by
       rcases hv with⟨rfl,rfl,rfl⟩ | ⟨cap,a,rfl,h1,h2,h3,h4,h5,h6⟩
       ·have:rows= []:=List.eq_nil_of_length_eq_zero q1
        subst this
        exact .nilsl2 _
       by_cases hcap:cap=0
       ·have:rows= []:=List.eq_nil_of_length_eq_zero (by omega)
        subst this
        have:len=0:=by simpa using q1.symm
        subst this
        exact .sl B.sz [] 0 0 cap (fun _ _=>undef) a (by simp) (by simp) (by simp) (by simp) (by simp) (by simp)
       ·rw[h6 hcap,hk.sz,←q1]
        exact q2.sl (fun hne=>him (hk.size (fun e=>hne (List.eq_nil_of_length_eq_zero (by rw[q1,←hlen,e];simp))))) (by omega)
      split at hd
      ·rename_i hdp
       split at hd
       ·rename_i rows hrows
        obtain rfl:=Option.some.inj hd
        exact key rows (by rw[(aw8 hrows).1,hlen]) (bp1 htr hts hrows (hk.rowsAt'.sub i len))
       ·cases hd
      ·rename_i hdp
       obtain rfl:=Option.some.inj hd
       have h7:=(hk.rowsAt).sub i len
       simp only[hdp] at h7
       exact key _ hlen (h7.im hIm)
     ·cases hd
    ·cases hd
  | _=>simp[W3] at hd
end
section
variable {w : World} {Im Im' : Nat → Prop} {φ φ' : o8} {σ σ' : i4}
theorem ah6 {f:D→Option D} (hIm:∀c,Im c→Im' c) (hf:∀d d' v,i7 w Im φ d v→f d=some d' →i7 w Im' φ' d' v) (hs:∀d d',t9 d=true→f d=some d' →t9 d' =true)
  {B B' :A5}{l:Q3} (h:az8 f (some B)=some (some B')) (hk:W6 w Im φ B l):W6 w Im' φ' B' l:=by
 simp only[az8] at h
 split at h
 ·rename_i hd
  simp only[Option.map_eq_some_iff] at h
  obtain⟨rows,hrows,h1⟩:=h
  obtain rfl:=Option.some.inj h1
  have hr:=bp1 hf hs hrows hk.rowsAt'
  exact⟨hk.pos,hk.sz,hr.1,by simp only[(aw8 hrows).1];exact hk.fit,hk.mem,hk.lt,hk.fz,fun i j r d a b=>by simpa using hr.2 i j r d a b⟩
 ·rename_i hd
  obtain rfl:=Option.some.inj (Option.some.inj h)
  refine⟨hk.pos,hk.sz,hk.len,hk.fit,hk.mem,hk.lt,hk.fz,fun i j r d a b=> ?_⟩
  obtain⟨v,hv,hr⟩:=hk.rel i j r d a b
  refine⟨v,hv,?_⟩
  have hd' :B.deep=false:=by simpa using hd
  simp only[hd',Bool.false_eq_true,if_false] at hr ⊢
  exact hr.mono hIm (fun _ _=>rfl) (l5.refl _)
theorem J9 {f:D→Option D}:∀{σ σ' :i4},C6 f σ=some σ' →σ'.length=σ.length∧∀(i:Nat) (B' :A5),sget σ' i=some B' →∃B,sget σ i=some B∧az8 f (some B)=some (some B')
 | [],σ',h=>by simp[C6] at h;subst h;exact⟨rfl,fun i B' h=>by simp[sget] at h⟩
 | b::r,σ',h=>by
  simp only[C6] at h
  split at h
  ·rename_i c s h1 h2
   obtain rfl:=Option.some.inj h
   obtain⟨h3,h4⟩:=J9 h2
   refine⟨by simp[h3],fun i B' a=> ?_⟩
   rw[J5] at a
   cases i with
   | zero=>
    simp at a
    subst a
    cases b with
    | none=>simp[az8] at h1
    | some B=>exact⟨B,rfl,h1⟩
   | succ i=>
    obtain⟨B,hB,h5⟩:=h4 i B' (by rw[J5];simpa using a)
    exact⟨B,by rw[J5] at hB ⊢;simpa using hB,h5⟩
  ·cases h
theorem bw9:∀{ids:List Nat},ay3 ids=true→∀(i j b:Nat),ids[i]? =some b→ids[j]? =some b→i=j
 | [],_,i,j,b,h,_=>by simp at h
 | x::r,h,i,j,b,h1,h2=>by
  simp only[ay3,Bool.and_eq_true,Bool.not_eq_true'] at h
  have hx:x∉r:=by simpa using h.1
  cases i with
  | zero=>
   cases j with
   | zero=>rfl
   | succ j=>
    simp at h1 h2
    subst h1
    exact absurd (List.mem_of_getElem? h2) hx
  | succ i=>
   cases j with
   | zero=>
    simp at h1 h2
    subst h2
    exact absurd (List.mem_of_getElem? h1) hx
   | succ j=>rw[bw9 h.2 i j b (by simpa using h1) (by simpa using h2)]
theorem bH7:∀{ids:List Nat}{b k c:Nat},aB6 ids b k=some c→k≤c∧ids[c-k]? =some b
 | [],_,_,_,h=>by simp[aB6] at h
 | x::r,b,k,c,h=>by
  simp only[aB6,Bool.cond_eq_ite] at h
  split at h
  ·rename_i hb
   obtain rfl:=Option.some.inj h
   exact⟨Nat.le_refl _,by simp;exact Nat.eq_of_beq_eq_true hb⟩
  ·obtain⟨h1,h2⟩:=bH7 h
   exact⟨by omega,by rw[show c-k=(c-(k+1))+1 by omega];simpa using h2⟩
def au5 (φ:o8) (b:Nat):Q3:=(φ[b]?).getD ⟨0,0,0,0⟩
def G2 (φ:o8) (ids:List Nat):o8:=ids.map (au5 φ)
theorem ai0 {ids:List Nat}{i b:Nat} (h:ids[i]? =some b):(G2 φ ids)[i]? =some (au5 φ b):=by simp[G2,h]
theorem br4 {ids:List Nat}:∀(b c:Nat) (l:Q3),aB6 ids b 0=some c→φ[b]? =some l→(G2 φ ids)[c]? =some l:=fun b c l h1 h2=>by
 obtain⟨_,h3⟩:=bH7 h1
 rw[Nat.sub_zero] at h3
 rw[ai0 h3,au5,h2];rfl
theorem aW0 {ids:List Nat}{i:Nat}{B:A5} (h:sget (x7 σ ids) i=some B):∃b,ids[i]? =some b∧sget σ b=some B:=by
 rw[J5] at h
 simp only[x7,List.getElem?_map,Option.map_eq_some_iff] at h
 obtain⟨b,hb,h1⟩:=h
 refine⟨b,hb,?_⟩
 rw[J5]
 split at h1
 ·rename_i B' h2;rw[h2,h1]
 ·cases h1
theorem Inv.pick (hi:Inv w Im φ σ) {ids:List Nat} (hnd:ay3 ids=true) {f:D→Option D} (hf:f=tr (M8 fun b=>aB6 ids b 0) l8) (h:C6 f (x7 σ ids)=some σ'):
  Inv w Im (G2 φ ids) σ' ∧∀c,m8 (G2 φ ids) σ' c→m8 φ σ c:=by
 subst hf
 obtain⟨h1,h2⟩:=J9 h
 have hget:∀i B' l,sget σ' i=some B' →(G2 φ ids)[i]? =some l→∃b B,ids[i]? =some b∧sget σ b=some B∧φ[b]? =some l∧W6 w Im (G2 φ ids) B' l:=fun i B' l h3 h4=>by
  obtain⟨B,hB,h5⟩:=h2 i B' h3
  obtain⟨b,hb,hB'⟩:=aW0 hB
  obtain⟨l',hl',hk⟩:=hi.loc hB'
  rw[ai0 hb,au5,hl'] at h4
  obtain rfl:l' =l:=by simpa using h4
  exact⟨b,B,hb,hB',hl',ah6 (fun _ h=>h) (fun d d' v a b=>ak4 (fun _ h=>h) br4 l8 d d' v a b) (as4 (aq4 _) l8) h5 hk⟩
 have hown:∀c,m8 (G2 φ ids) σ' c→m8 φ σ c:=by
  rintro c ⟨i,B',l,h3,h4,rfl,hp⟩
  obtain⟨b,B,_,hB,hl,_⟩:=hget i B' l h4 h3
  exact⟨b,B,l,hl,hB,rfl,hp⟩
 refine⟨⟨by rw[h1];simp[G2,x7],fun i B' l h3 h4=> ?_,fun i j B1 B2 l1 l2 hne h3 h4 h5 h6 p1 p2=> ?_,fun c hc ho=>hi.sep c hc (hown c ho),hi.im⟩,hown⟩
 ·obtain⟨_,_,_,_,_,hk⟩:=hget i B' l h3 h4
  exact hk
 ·obtain⟨b1,C1,e1,e2,e3,_⟩:=hget i B1 l1 h5 h3
  obtain⟨b2,C2,g1,g2,g3,_⟩:=hget j B2 l2 h6 h4
  refine hi.inj b1 b2 C1 C2 l1 l2 (fun e=> ?_) e3 g3 e2 g2 p1 p2
  subst e
  exact hne (bw9 hnd i j b1 e1 g1)
theorem aT9 {f:D→Option D}:∀{fr fr' :Fr},be8 f fr=some fr' →∀t,(o5 fr' t=.undef∧o5 fr t=.undef)∨f (o5 fr t)=some (o5 fr' t)
 | [],fr',h,t=>by simp[be8] at h;subst h;exact .inl ⟨rfl,rfl⟩
 | x::r,fr',h,t=>by
  simp only[be8] at h
  split at h
  ·rename_i d s h1 h2
   obtain rfl:=Option.some.inj h
   simp only[o5,Bool.cond_eq_ite]
   split
   ·exact .inr h1
   ·exact aT9 h2 t
  ·cases h
theorem bh3 {m:Nat}{ids:List Nat} (h:bK2 m ids=true):ay3 ids=true∧∀b,b<m→ids[b]? =some b:=by
 simp only[bK2,Bool.and_eq_true,beq_iff_eq] at h
 refine⟨h.2,fun b hb=> ?_⟩
 have:=congrArg (fun l=>l[b]?) h.1
 simp only[List.getElem?_take,if_pos hb] at this
 rw[this];simp[hb]
theorem aL7 (hi:Inv w Im φ σ) {m:Nat}{fr fr' :Fr} (hm:m≤φ.length) (h:aP1 m fr σ=some (fr',σ')) {a:Nat→Value} (hfr:∀t,i7 w Im φ (o5 fr t) (a t)):
  ∃φ',Inv w Im φ' σ' ∧Tr m w Im φ σ w Im φ' σ' ∧∀t,i7 w Im φ' (o5 fr' t) (a t):=by
 unfold aP1 at h
 simp only at h
 split at h
 ·rename_i fr2 s h1 h2 h3
  simp only[Option.some.injEq,Prod.mk.injEq] at h
  obtain⟨rfl,rfl⟩:=h
  obtain⟨hnd,hfirst⟩:=bh3 h1
  obtain⟨i1,i2⟩:=hi.pick hnd rfl h3
  refine⟨_,i1,⟨⟨Nat.le_refl _,fun _ _ _=>rfl,⟨rfl,rfl,rfl⟩⟩,fun c hc=> .inl (i2 c hc),fun b hb=> ?_,fun _ h=>h,fun _ h=> .inl h⟩,fun t=> ?_⟩
  ·rw[ai0 (hfirst b hb),au5]
   have:b<φ.length:=by omega
   simp[this]
  ·rcases aT9 h2 t with⟨g1,g2⟩ | g
   ·rw[g1];exact .undef _
   ·exact ak4 (fun _ h=>h) br4 l8 _ _ _ (hfr t) g
 ·cases h
theorem cv1 {m b:Nat}:sget (σ.take m) b=if b<m then sget σ b else none:=by
 unfold sget
 rw[List.getElem?_take]
 split<;>simp_all
theorem cR9 (hi:Inv w Im φ σ) {m:Nat} (hm:m≤φ.length) {d d' :D}{v:Value} (hd:i7 w Im φ d v) (h1:frz σ m d=some d') (h2:C6 (frz σ m) (σ.take m)=some σ'):
  ∃φ' Im',Inv w Im' φ' σ' ∧Tr m w Im φ σ w Im' φ' σ' ∧i7 w Im' φ' d' v:=by
 let Im2:Nat→Prop:=fun c=>Im c∨∃b B l,m≤b∧sget σ b=some B∧φ[b]? =some l∧l.blk=c∧0<l.size
 have hIm:∀c,Im c→Im2 c:=fun c h=> .inl h
 have hown:∀(b:Nat) (B:A5) (l:Q3),m≤b→sget σ b=some B→φ[b]? =some l→0<l.size→Im2 l.blk:=fun b B l a1 a2 a3 hp=> .inr ⟨b,B,l,a1,a2,a3,rfl,hp⟩
 have htake:∀(b:Nat) (l:Q3),b<m→φ[b]? =some l→(φ.take m)[b]? =some l:=fun b l a1 a2=>by rw[List.getElem?_take,if_pos a1];exact a2
 have hfr:∀d d' v,i7 w Im φ d v→frz σ m d=some d' →i7 w Im2 (φ.take m) d' v:=fun d d' v a b=>
  aR0 hIm (fun b i o d' v a b' =>ad4 hi hIm hown 6 false _ (fun _=>htake) _ d' v (fun _ _ _ _=>trivial) a b') (fun b i len lo ex d' v a b' =>ad4 hi hIm hown 6 false _ (fun _=>htake) _ d' v (fun _ _ _ _=>trivial) a b') l8 d d' v a b
 have hsc:∀d d',t9 d=true→frz σ m d=some d' →t9 d' =true:=as4 (fun d d' a b=>bQ5 6 false d d' a b) l8
 obtain⟨g1,g2⟩:=J9 h2
 have hget:∀i B' l,sget σ' i=some B' →(φ.take m)[i]? =some l→i<m∧∃B,sget σ i=some B∧φ[i]? =some l∧W6 w Im2 (φ.take m) B' l:=fun i B' l a b=>by
  obtain⟨B,hB,h5⟩:=g2 i B' a
  rw[cv1] at hB
  split at hB
  ·rename_i him
   rw[List.getElem?_take,if_pos him] at b
   exact⟨him,B,hB,b,ah6 hIm hfr hsc h5 (hi.blk i B l hB b)⟩
  ·cases hB
 have hown2:∀c,m8 (φ.take m) σ' c→m8 φ σ c:=by
  rintro c ⟨i,B',l,a,b,rfl,hp⟩
  obtain⟨_,B,hB,hl,_⟩:=hget i B' l b a
  exact⟨i,B,l,hl,hB,rfl,hp⟩
 refine⟨φ.take m,Im2,⟨?_,fun i B' l a b=>(hget i B' l a b).2.choose_spec.2.2,fun i j B1 B2 l1 l2 hne a1 a2 a3 a4 p1 p2=> ?_,fun c hc ho=> ?_,fun c hc=> ?_⟩,⟨⟨Nat.le_refl _,fun _ _ _=>rfl,⟨rfl,rfl,rfl⟩⟩,fun c hc=> .inl (hown2 c hc),fun b hb=>by rw[List.getElem?_take,if_pos hb],hIm,fun c hc=> ?_⟩,hfr d d' v hd h1⟩
 ·rw[g1,List.length_take,List.length_take,hi.len]
 ·obtain⟨_,C1,e1,e2,_⟩:=hget i B1 l1 a3 a1
  obtain⟨_,C2,f1,f2,_⟩:=hget j B2 l2 a4 a2
  exact hi.inj i j C1 C2 l1 l2 hne e2 f2 e1 f1 p1 p2
 ·rcases hc with hc | ⟨b,B,l,a1,a2,a3,a4,p1⟩
  ·exact hi.sep c hc (hown2 c ho)
  ·obtain⟨i,B',l',b1,b2,b3,p2⟩:=ho
   obtain⟨him,B2,c1,c2,_⟩:=hget i B' l' b2 b1
   exact hi.inj b i B B2 l l' (by omega) a3 c2 a2 c1 p1 p2 (by rw[a4,b3])
 ·rcases hc with hc | ⟨b,B,l,a1,a2,a3,rfl,hp⟩
  ·exact hi.im c hc
  ·exact(hi.blk b B l a2 a3).lt hp
 ·rcases hc with hc | ⟨b,B,l,a1,a2,a3,rfl,hp⟩
  ·exact .inl hc
  ·exact .inr (.inl ⟨b,B,l,a3,a2,rfl,hp⟩)
end
def GlOk (E:E7) (w:World) (Im:Nat→Prop):Prop:=∀g,i7 w Im [] (E.gl g) (.pointer (some ⟨g,0,none⟩))
theorem GlOk.mono {E:E7}{w w' :World}{Im Im' :Nat→Prop} (h:GlOk E w Im) (hIm:∀c,Im c→Im' c) (hw:∀c,Im c→w'.heap[c]? =w.heap[c]?):GlOk E w' Im' :=fun g=>(h g).mono hIm hw (l5.refl _)
def l4 (E:E7) (f:FuncId) (args:List D) (σ:i4) (Q:D→i4→Prop):Prop:=
 ∀(w:World) (Im:Nat→Prop) (φ:o8) (vs:Array Value),GlOk E w Im→Inv w Im φ σ→E3 w Im φ args vs.toList→
  Calls E.P f vs w fun e w' =>∃v d σ' φ' Im',e=.returned v∧Tr σ.length w Im φ σ w' Im' φ' σ' ∧Inv w' Im' φ' σ' ∧i7 w' Im' φ' d v∧Q d σ'
def ba9 (E:E7) (f:FuncId) (args:List D) (d:D):Prop:=l4 E f args [] fun d' s' =>d' =d∧s' = []
theorem l4.mono {E:E7}{f:FuncId}{args:List D}{σ:i4}{Q Q' :D→i4→Prop} (h:l4 E f args σ Q) (hq:∀d s,Q d s→Q' d s):l4 E f args σ Q' :=
 fun w Im φ vs h0 h1 h2=>(h w Im φ vs h0 h1 h2).mono fun e w' ⟨v,d,σ',φ',Im',a,b,c,d',e'⟩=>⟨v,d,σ',φ',Im',a,b,c,d',hq _ _ e'⟩
/-! ### two sides of a range over a function -/
/-- The other side's blocks, X, none of them one that nobody writes to. -/
structure XOk (w : World) (Im X : Nat → Prop) : Prop where
  lt : ∀ c, X c → c < w.heap.size
  im : ∀ c, X c → ¬ Im c
/-- What an iterator's run does between two calls of yield, seen from the loop: blocks X are left alone, and all of those ahead of n0 but G. -/
structure cZ4 (n0 : Nat) (G X : Nat → Prop) (w : World) (Im : Nat → Prop) (w' : World) (Im' : Nat → Prop) : Prop where
  size : w.heap.size ≤ w'.heap.size
  same : ∀ c, c < w.heap.size → (X c ∨ Im c ∨ (c < n0 ∧ ¬ G c)) → w'.heap[c]? = w.heap[c]?
  io : Io w w'
  im : ∀ c, Im c → Im' c
  imN : ∀ c, Im' c → Im c ∨ G c ∨ n0 ≤ c
  imX : ∀ c, Im' c → ¬ X c
  imS : ∀ c, Im' c → c < w'.heap.size
/-- What a round does, seen from the iterator: it turns its own blocks alone. -/
structure bZ3 (X : Nat → Prop) (w : World) (Im : Nat → Prop) (w' : World) (Im' X' : Nat → Prop) : Prop where
  size : w.heap.size ≤ w'.heap.size
  same : ∀ c, c < w.heap.size → ¬ X c → w'.heap[c]? = w.heap[c]?
  io : Io w w'
  im : ∀ c, Im c → Im' c
  imN : ∀ c, Im' c → Im c ∨ X c ∨ w.heap.size ≤ c
  imS : ∀ c, Im' c → c < w'.heap.size
  xN : ∀ c, X' c → X c ∨ w.heap.size ≤ c
  ok : XOk w' Im' X'
def YieldOk (P:Program) (l:Nat) (vs:Array Value) (w:World) (R:Ending→World→Prop):Prop:=
 ∃fn tmps assign body,(Instr.yield l vs).run P w=.ok (.round l fn tmps assign body) w∧RoundIn Fence.wide 0 P l fn tmps assign body w R
def U6 (ln s:i4):Prop:=s.take ln.length=ln
def ba7 (ln:i4):Prop:=C6 (tr (M8 (idH ln.length)) l8) ln=some ln
/-- The loop's side, as an iterator knows it: J, at what is still to be told; the blocks ln, at φ0, are lent to it in each round. -/
structure br2 (P : Program) (l : Nat) (J : Option (List (List D)) → World → (Nat → Prop) → (Nat → Prop) → Prop) (n0 : Nat) (G : Nat → Prop) (φ0 : o8) (ln : i4) : Prop where
  stay : ∀ Y w Im X w' Im', J Y w Im X → XOk w Im X → cZ4 n0 G X w Im w' Im' → J Y w' Im' X
  yields : ∀ (y : List D) (Y : List (List D)) (w : World) (Im X : Nat → Prop) (vs : Array Value), J (some (y :: Y)) w Im X → XOk w Im X → (∀ c, Im c → c < w.heap.size) → E3 w Im [] y vs.toList →
    Inv w Im φ0 ln → (∀ c, X c → ¬ m8 φ0 ln c) →
    YieldOk P l vs w fun e w' => ∃ b Im' X', e = .returned (.bool b) ∧ J (if b = true then some Y else none) w' Im' X' ∧ bZ3 (fun c => X c ∨ m8 φ0 ln c) w Im w' Im' X' ∧ Inv w' Im' φ0 ln ∧ (∀ c, X' c → ¬ m8 φ0 ln c)
def av1 (E:E7) (g:FuncId) (caps:List D) (σ ln:i4) (Y:List (List D)):Prop:=
 ∀(w:World) (Im:Nat→Prop) (φ:o8) (vs:Array Value) (l:Nat) (J:Option (List (List D))→World→(Nat→Prop)→(Nat→Prop)→Prop) (n0:Nat) (G X:Nat→Prop),GlOk E w Im→Inv w Im φ σ→E3 w Im φ caps vs.toList→
  br2 E.P l J n0 G (φ.take ln.length) ln→n0≤w.heap.size→(∀c,m8 φ σ c→G c)→XOk w Im X→(∀c,X c→¬m8 φ σ c)→J (some Y) w Im X→
  Calls E.P g (#[.func (.yield l) #[] #[]]++vs) w fun e w' =>(∃v,e=.returned v)∧∃Im' X',(J (some []) w' Im' X' ∨J none w' Im' X')∧Inv w' Im' (φ.take ln.length) ln∧(∀c,X' c→¬m8 (φ.take ln.length) ln c)
def An (E:E7) (C:Cx) (w:World) (Im:Nat→Prop) (φ:o8) (σ:i4):Prop:=
 C.it=true→(l5 C.lp0 φ∧C.lp0.length=C.ln.length∧C.lp0.length≤C.m∧ba7 C.ln)∧
  ∃(n0:Nat) (G X:Nat→Prop),br2 E.P C.lp C.J n0 G C.lp0 C.ln∧n0≤w.heap.size∧(∀c,m8 φ σ c→G c∨n0≤c)∧XOk w Im X∧(∀c,X c→¬m8 φ σ c)∧C.J C.Y w Im X
def cT6 (C:Cx) (w:World) (Im:Nat→Prop) (φ:o8) (σ:i4):Prop:=
 (l5 C.lp0 φ∧C.lp0.length=C.ln.length∧ba7 C.ln)∧∃X:Nat→Prop,(C.J (some []) w Im X∨C.J none w Im X)∧(∀c,X c→¬m8 φ σ c)
def mark (b:Nat):Deferred:={ target:=.collected b,args:= #[] }
structure bY9 (C:Cx) (lo:Nat) (w:World) (Im:Nat→Prop) (φ:o8) (σ:i4) (ds:List Deferred) (Ds:List Nat):Prop where
 eq:ds=Ds.map mark
 none:C.it=true→Ds= []
 nodup:Ds.Nodup
 ok:∀b∈Ds,lo≤b∧b<w.heap.size∧w.heap[b]? =some (.deferred (some []))∧¬Im b∧¬m8 φ σ b
structure bz0 (E:E7) (C:Cx) (lo:Nat) (w:World) (Im:Nat→Prop) (φ:o8) (σ:i4) (ds:List Deferred):Prop where
 low:lo≤w.heap.size
 gl:GlOk E w Im
 an:An E C w Im φ σ
 mks:∃Ds,bY9 C lo w Im φ σ ds Ds
theorem Tr.imX {k:Nat}{w w' :World}{Im Im' :Nat→Prop}{φ φ' :o8}{σ σ' :i4} (ht:Tr k w Im φ σ w' Im' φ' σ') {X:Nat→Prop} (hx:∀c,X c→c<w.heap.size∧¬Im c∧¬m8 φ σ c):
  (∀c,X c→¬Im' c∧¬m8 φ' σ' c):=fun c hc=>by
 obtain⟨h1,h2,h3⟩:=hx c hc
 refine⟨fun h=> ?_,fun h=> ?_⟩
 ·rcases ht.imN c h with h | h | h
  ·exact h2 h
  ·exact h3 h
  ·omega
 ·rcases ht.own c h with h | h
  ·exact h3 h
  ·omega
theorem An.tr {E:E7}{C:Cx}{k:Nat}{w w' :World}{Im Im' :Nat→Prop}{φ φ' :o8}{σ σ' :i4} (h:An E C w Im φ σ) (hk:C.m≤k) (hi:Inv w Im φ σ) (ht:Tr k w Im φ σ w' Im' φ' σ') (hi' :Inv w' Im' φ' σ'):An E C w' Im' φ' σ' :=fun hit=>by
 obtain⟨⟨q1,q2,q3,q4⟩,n0,G,X,h1,h2,h3,h4,h5,h6⟩:=h hit
 refine⟨⟨fun b l hb=> ?_,q2,q3,q4⟩,?_⟩
 ·have:=(List.getElem?_eq_some_iff.1 hb).1
  rw[ht.pre b (by omega)];exact q1 b l hb
 have hx:=ht.imX (X:=X) fun c hc=>⟨h4.lt c hc,h4.im c hc,h5 c hc⟩
 refine⟨n0,G,X,h1,Nat.le_trans h2 ht.ext.size,fun c hc=> ?_,⟨fun c hc=>Nat.lt_of_lt_of_le (h4.lt c hc) ht.ext.size,fun c hc=>(hx c hc).1⟩,fun c hc=>(hx c hc).2,h1.stay _ _ _ _ _ _ h6 h4 ⟨ht.ext.size,fun c hc ho=> ?_,ht.ext.io,ht.im,fun c hc=> ?_,fun c hc hX=>(hx c hX).1 hc,hi'.im⟩⟩
 ·rcases ht.own c hc with h | h
  ·exact h3 c h
  ·exact .inr (Nat.le_trans h2 h)
 ·refine ht.ext.same c hc fun h=> ?_
  rcases ho with ho | ho | ⟨ho,hg⟩
  ·exact h5 c ho h
  ·exact hi.sep c ho h
  ·rcases h3 c h with h | h
   ·exact hg h
   ·omega
 ·rcases ht.imN c hc with h | h | h
  ·exact .inl h
  ·exact .inr (h3 c h)
  ·exact .inr (.inr (Nat.le_trans h2 h))
theorem bY9.tr {C:Cx}{lo k:Nat}{w w' :World}{Im Im' :Nat→Prop}{φ φ' :o8}{σ σ' :i4}{ds:List Deferred}{Ds:List Nat} (h:bY9 C lo w Im φ σ ds Ds) (ht:Tr k w Im φ σ w' Im' φ' σ'):bY9 C lo w' Im' φ' σ' ds Ds:=
 ⟨h.eq,h.none,h.nodup,fun b hb=>by
  obtain⟨h1,h2,h3,h4,h5⟩:=h.ok b hb
  have hx:=ht.imX (X:=fun c=>c=b) (fun c hc=>by subst hc;exact⟨h2,h4,h5⟩) b rfl
  exact⟨h1,Nat.lt_of_lt_of_le h2 ht.ext.size,by rw[ht.ext.same b h2 h5];exact h3,hx.1,hx.2⟩⟩
theorem bz0.tr {E:E7}{C:Cx}{lo k:Nat}{w w' :World}{Im Im' :Nat→Prop}{φ φ' :o8}{σ σ' :i4}{ds:List Deferred} (h:bz0 E C lo w Im φ σ ds) (hk:C.m≤k) (hi:Inv w Im φ σ) (ht:Tr k w Im φ σ w' Im' φ' σ') (hi' :Inv w' Im' φ' σ'):bz0 E C lo w' Im' φ' σ' ds:=
 ⟨Nat.le_trans h.low ht.ext.size,h.gl.mono ht.im (ht.keeps hi),h.an.tr hk hi ht hi',let ⟨Ds,hm⟩:=h.mks;⟨Ds,hm.tr ht⟩⟩
structure ao6 (E:E7) (C:Cx) (lo:Nat) (w:World) (Im:Nat→Prop) (φ:o8) (fr:Fr) (σ:i4) (a:Act):Prop where
 fr:∀t,i7 w Im φ (o5 fr t) (a.tmps.getD t undef)
 inv:Inv w Im φ σ
 sd:bz0 E C lo w Im φ σ a.defers
 sz:a.tmps.size=C.fn.ntmps
 m:C.m≤φ.length
def bm8:Exit→Option Nat
 | .normal=>some 0
 | .ret=>some 1
 | .exit id=>some (id+2)
 | _=>none
/-- The marks' blocks are shut, at cs8. -/
structure bc5 (Ds : List Nat) (w w' : World) : Prop where
  size : w'.heap.size = w.heap.size
  same : ∀ c, c ∉ Ds → w'.heap[c]? = w.heap[c]?
  io : Io w w'
def N5 (E:E7) (C:Cx) (lo:Nat) (Q:D→i4→Prop) (w:World) (Im:Nat→Prop) (φ:o8) (σ:i4) (e:Exit) (a' :Act) (w' :World):Prop:=
 (C.rb=true→∃n σ' φ' Im',bm8 e=some n∧Tr C.m w Im φ σ w' Im' φ' σ' ∧Inv w' Im' φ' σ' ∧Q (.int .i64 (n:Int)) σ')∧
 (C.rb=false→(e=.normal∨e=.ret)∧
  ∃Ds,a'.defers=Ds.map mark∧(C.it=true→Ds= [])∧Ds.Nodup∧(∀b∈Ds,lo≤b∧w'.heap[b]? =some (.deferred (some [])))∧
   ∀w'',bc5 Ds w' w'' →∃v d σ' φ' Im',(results C.fn a'.tmps).run E.P w'' =.ok v w'' ∧(C.it=false→Tr C.m w Im φ σ w' Im' φ' σ')∧Inv w'' Im' φ' σ' ∧i7 w'' Im' φ' d v∧Q d σ' ∧(C.it=true→cT6 C w'' Im' φ' σ'))
def OkF (F:Fence):Prop:=F=Fence.wide∨∃l,F=Fence.wide.inRound l
theorem OkF.fn {F:Fence} (h:OkF F) (f:FuncId):F.fn f:=by rcases h with rfl | ⟨l,rfl⟩<;>trivial
theorem OkF.depth {F:Fence} (h:OkF F):F.depth=none:=by rcases h with rfl | ⟨l,rfl⟩<;>rfl
theorem OkF.wide:OkF Fence.wide:=.inl rfl
theorem OkF.calls {F:Fence} (h:OkF F) {n:Nat}{P:Program}{f:FuncId}{args:Array Value}{w:World}{R:Ending→World→Prop} (hc:Calls P f args w R):CallsIn F n P f args w R:=by
 rcases h with rfl | ⟨l,rfl⟩
 ·exact callsIn_wide.2 hc
 ·exact callsIn_wide.2 hc
theorem OkF.rows {F:Fence} (h:OkF F) {n:Nat}{P:Program}{row:String}{args:Array Value}{w:World}{R:Value→World→Prop} (hr:Rows P row args w R):RowsIn F n P row args w R:=by
 intro c cs _
 obtain⟨v,w',q,hs⟩:=hr c cs
 refine⟨v,w',q,?_⟩
 rcases h with rfl | ⟨l,rfl⟩
 ·exact stepsIn_wide.2 hs
 ·exact stepsIn_wide.2 hs
theorem OkF.wp {F:Fence} (hF:OkF F) {n:Nat}{P:Program}{o:Oper}{a:Act}{w:World}{next:Act→World→Prop}{R:Exit→Act→World→Prop} (hnd:∀c,o.op≠.defer c) (h:o.wp P a w next R):o.wpIn F n P a w next R:=by
 refine⟨fun f _=>hF.fn f,?_⟩
 rw[Oper.semAt_eq _ _ _ hnd]
 unfold Oper.wp at h
 have hd:F.depth.isSome=true→1≤n:=fun hd=>by rw[hF.depth] at hd;cases hd
 generalize (execOp a.eval o).run P w=r at*
 cases r with
 | ok x w' =>
  cases x<;>simp only[Oper.upon,Oper.uponIn] at h ⊢
  all_goals first
   | exact h
   | exact⟨hd,hF.calls h⟩
   | exact⟨hd,hF.rows h⟩
   | exact h.elim
 | halt x w' =>
  cases x<;>simp only[Oper.upon,Oper.uponIn] at h ⊢
  all_goals first
   | exact h
   | exact h.elim
def bp0 (F:Fence) (n:Nat) (P:Program) (c:Code) (Q:Exit→Act→World→Prop) (a:Act) (w:World):Prop:=
 ∀(b:Frame) (k:List Item) (cs:List Frame),b.roundOf=F.round→F.fn b.fn→F.room (cs.length+1+n)→
  ∃e a' w',Q e a' w' ∧ArrivesIn (Machine.fenced P F) P (lone (b.atR a (.code c::.inLoop c::k)) cs w) b k cs e a' w'
def sem (F:Fence) (n:Nat) (P:Program) (Q:Exit→Act→World→Prop):List It→Exit→Act→World→Prop
 | []=>Q
 | .blk id::t=>Exit.inBlock id (sem F n P Q t)
 | .sc::t=>Exit.noGoto (sem F n P Q t)
 | .code c::t=>Exit.then (c.wpIn F n P (sem F n P Q t)) (sem F n P Q t)
 | .lp c _::t=>Exit.then (bp0 F n P c (sem F n P Q t)) (sem F n P Q t)
 | .lpc c _::t=>Exit.then (bp0 F n P c (sem F n P Q t)) (sem F n P Q t)
 | .ops all l::t=>Exit.then (wpListIn F n P all.toArray (sem F n P Q t) l) (sem F n P Q t)
def OkC (C:Cx) (F:Fence):Prop:=(C.rb=false→F=Fence.wide)∧(C.rb=true→∃l,F=Fence.wide.inRound l)
theorem OkC.ok {C:Cx}{F:Fence} (h:OkC C F):OkF F:=by
 cases hr:C.rb with
 | false=>exact .inl (h.1 hr)
 | true=>exact .inr (h.2 hr)
def cb7 (E:E7) (C:Cx) (Q:D→i4→Prop) (M:M):Prop:=
 ∀(F:Fence) (n:Nat),OkC C F→∀(lo:Nat) (a:Act) (w:World) (Im:Nat→Prop) (φ:o8),ao6 E C lo w Im φ M.fr M.st a→∀R:Exit→Act→World→Prop,(∀e a' w',N5 E C lo Q w Im φ M.st e a' w' →R e a' w')→sem F n E.P R M.td .normal a w
def MW (m m' :Fr×i4):Prop:=∀(k:Nat) (w:World) (Im:Nat→Prop) (φ:o8) (v:Nat→Value),k≤φ.length→Inv w Im φ m.2→(∀t,i7 w Im φ (o5 m.1 t) (v t))→
 ∃φ',l5 φ φ' ∧φ.length≤φ'.length∧Tr k w Im φ m.2 w Im φ' m'.2∧Inv w Im φ' m'.2∧∀t,i7 w Im φ' (o5 m'.1 t) (v t)
def QW (Q:D→i4→Prop) (d:D) (s:i4):Prop:=∃d' s',MW ([(0,d)],s) ([(0,d')],s')∧Q d' s'
def Rng (B:i4→Prop) (R:List D→i4→(D→i4→Prop)→Prop) (A:Nat→i4→Prop):List (List D)→i4→Prop
 | [],σ=>A 0 σ
 | y::Y,σ=>R y σ fun d s=>B s∧((d=.int .i64 0∧Rng B R A Y s)∨∃n:Nat,n≠0∧d=.int .i64 (n:Int)∧A n s)
def Cx.fin (C:Cx):Prop:=C.it=true→C.Y=some []∨C.Y=none
def i6 (E:E7):Cx→(D→i4→Prop)→Qy→Prop
 | C,Q,.go m=>cb7 E C Q m
 | C,Q,.need b q=>b=true∧i6 E C Q q
 | C,Q,.split b k=>i6 E C Q (k b)
 | C,Q,.row r k=>∃x,r=some x∧i6 E C Q (k x)
 | C,Q,.rows r k=>i6 E C Q (k r)
 | C,Q,.any p k=>∀b,(b=true→p=true)→i6 E C Q (k b)
 | C,Q,.str r k=>∃x,r=some x∧i6 E C Q (k x)
 | C,Q,.call f args sub k=>∃Qc,l4 E f args sub Qc∧∀d s,Qc d s→i6 E C Q (k d s)
 | C,Q,.callD f args k=>∃d,ba9 E f args d∧i6 E C Q (k d)
 | C,Q,.callS f args sub k=>∃d s,(l4 E f args sub fun d' s' =>d' =d∧s' =s)∧i6 E C Q (k d s)
 | C,Q,.callR f args sub σ bk k=>∃d s x,(l4 E f args sub fun d' s' =>d' =d∧s' =s)∧bk d s=some x∧x.2.take σ.length=σ∧i6 E C Q (k x.1 x.2)
 | C,Q,.yld l y s k=>C.it=true∧C.rb=false∧C.lp=l∧U6 C.ln s∧∃Y,C.Y=some (y::Y)∧i6 E (C.tell (some Y)) Q (k true)∧i6 E (C.tell none) Q (k false)
 | C,Q,.rng m g caps sub σ ids rnd aft=>(ids= []∨C6 (tr (M8 (au6 ids σ.length)) l8) sub=some (x7 σ ids))∧
  ∃Y,av1 E g caps sub (bif ids.isEmpty then [] else sub) Y∧Rng (fun s=>x7 s ids=x7 σ ids) (fun y s q=>i6 E (C.round m) (QW q) (rnd y s)) (fun n s=>i6 E C Q (aft n s)) Y σ
 | C,Q,.ret d σ=>C.fin∧Q d σ
 | _,_,.bad=>False
/-- From a state to a later one. -/
structure Nx (w : World) (Im : Nat → Prop) (φ : o8) (σ : i4) (w' : World) (Im' : Nat → Prop) (φ' : o8) (σ' : i4) : Prop where
  le : l5 φ φ'
  len : φ.length ≤ φ'.length
  tr : Tr φ.length w Im φ σ w' Im' φ' σ'
  inv : Inv w' Im' φ' σ'
section
variable {E : E7} {C C' : Cx} {Q : D → i4 → Prop} {w w' : World} {Im Im' : Nat → Prop} {φ φ' : o8} {σ σ' : i4}
theorem T9.nx {d:D}{v:Value} (g:T9 w Im φ σ w' φ' σ' d v) (hlen:φ.length≤φ'.length):Nx w Im φ σ w' Im φ' σ' :=⟨g.le,hlen,g.tr,g.inv⟩
theorem l5.length {a b:o8} (h:l5 a b):a.length≤b.length:=by
 rcases Nat.lt_or_ge b.length a.length with hlt | hge
 ·have h1:a[b.length]? =some (a[b.length]):=by simp[hlt]
  have:=h _ _ h1
  simp at this
 ·exact hge
theorem N5.of_tr {lo:Nat}{e:Exit}{a' :Act}{w2:World} (h:Tr C.m w Im φ σ w' Im' φ' σ') (hd:N5 E C lo Q w' Im' φ' σ' e a' w2):N5 E C lo Q w Im φ σ e a' w2:=by
 obtain⟨h1,h2⟩:=hd
 refine⟨fun hr=> ?_,fun hr=> ?_⟩
 ·obtain⟨n,s,p,I,g1,g2,g3,g4⟩:=h1 hr
  exact⟨n,s,p,I,g1,h.trans g2,g3,g4⟩
 ·obtain⟨g1,Ds,g3,g4,g5,g6,g7⟩:=h2 hr
  refine⟨g1,Ds,g3,g4,g5,g6,fun w'' hs=> ?_⟩
  obtain⟨v,d,s,p,I,k1,k2,k3⟩:=g7 w'' hs
  exact⟨v,d,s,p,I,k1,fun hi=>h.trans (k2 hi),k3⟩
/-- A move of a text: what is known goes with it. -/
structure Mv (E : E7) (C : Cx) (w : World) (Im : Nat → Prop) (φ : o8) (σ : i4) (C' : Cx) (w' : World) (Im' : Nat → Prop) (φ' : o8) (σ' : i4) : Prop where
  le : l5 φ φ'
  len : φ.length ≤ φ'.length
  im : ∀ c, Im c → Im' c
  hp : ∀ c, Im c → w'.heap[c]? = w.heap[c]?
  inv : Inv w' Im' φ' σ'
  sd : ∀ lo ds, bz0 E C lo w Im φ σ ds → bz0 E C' lo w' Im' φ' σ' ds
  cx : ∃ Y, C' = C.tell Y
  dn : ∀ lo Q e a w2, N5 E C' lo Q w' Im' φ' σ' e a w2 → N5 E C lo Q w Im φ σ e a w2
theorem Nx.mv (hi:Inv w Im φ σ) (hm:C.m≤φ.length) (n:Nx w Im φ σ w' Im' φ' σ'):Mv E C w Im φ σ C w' Im' φ' σ' :=
 ⟨n.le,n.len,n.tr.im,n.tr.keeps hi,n.inv,fun lo ds h=>h.tr hm hi n.tr n.inv,⟨C.Y,rfl⟩,fun lo Q e a w2 hd=>N5.of_tr (n.tr.le hm) hd⟩
theorem Mv.rel (h:Mv E C w Im φ σ C' w' Im' φ' σ') {d:D}{v:Value} (hr:i7 w Im φ d v):i7 w' Im' φ' d v:=hr.mono h.im h.hp h.le
theorem an4 {fr:Fr}{a:Act} (hg:GlOk E w Im) (h:∀t,i7 w Im φ (o5 fr t) (a.tmps.getD t undef)) (x:Operand):i7 w Im φ (C4 E.gl fr x) (a.eval x):=by
 cases x with
 | tmp t=>exact h t
 | const v=>exact as9 v
 | global g=>exact(hg g).mono (fun _ h=>h) (fun _ _=>rfl) (l5.nil _)
 | func f=>exact .fn f [] [] #[] #[] rfl rfl (fun i d v a=>by simp at a) (fun i d v a=>by simp at a)
theorem bL9 {fr:Fr}{a:Act} (h:∀t,i7 w Im φ (o5 fr t) (a.tmps.getD t undef)) {dst:Option Nat}{n:Nat} (hsz:a.tmps.size=n) (hd:aU4 n dst=true) {d:D}{v:Value} (hr:i7 w Im φ d v):
  ∀t,i7 w Im φ (o5 (put fr dst d) t) ((a.put dst v).tmps.getD t undef):=by
 intro t
 cases dst with
 | none=>exact h t
 | some s=>
  have hs:s<a.tmps.size:=by rw[hsz];exact Nat.lt_of_succ_le (Nat.le_of_ble_eq_true hd)
  simp only[put,ai4,o5,Act.put,Bool.cond_eq_ite]
  split
  ·rename_i he
   have he' :=Nat.eq_of_beq_eq_true he
   subst he'
   rw[show(a.tmps.setIfInBounds s v).getD s undef=v by simp[hs]]
   exact hr
  ·rename_i he
   have hne:s≠t:=fun e=>he (by rw[e];exact Nat.beq_refl t)
   have:(a.tmps.setIfInBounds s v).getD t undef=a.tmps.getD t undef:=by
    simp[Array.getElem?_setIfInBounds_ne hne]
   rw[this]
   exact h t
theorem cf3 (a:Act) (dst:Option Nat) (v:Value):(a.put dst v).tmps.size=a.tmps.size:=by
 cases dst<;>simp[Act.put]
theorem cC9 (a:Act) (dst:Option Nat) (v:Value):(a.put dst v).defers=a.defers:=by
 cases dst<;>rfl
/-! ### calls -/
theorem bm2:∀(n:Nat) (d:D) (v:Value),ap5 n d=true→i7 w Im φ d v→i7 w' Im' φ' d v
 | 0,_,_,h,_=>by simp[ap5] at h
 | n+1,d,v,h,hr=>by
  have IH:=bm2 n
  cases hr<;>simp[ap5] at h
  case bool=>exact .bool _
  case int=>exact .int _ _
  case str e=>exact .str _ _ e
  case agg cs vs e1 e2=>exact .agg _ _ e1 (fun i d v a b=>IH d v (h d (List.mem_of_getElem? a)) (e2 i d v a b))
  case tup cs vs e1 e2=>exact .tup _ _ e1 (fun i d v a b=>IH d v (h d (List.mem_of_getElem? a)) (e2 i d v a b))
theorem ap4 (c:Nat):¬m8 [] [] c:=fun⟨b,B,l,h,_⟩=>by simp at h
theorem Inv.past (hi:Inv w Im φ σ) {I2:Nat→Prop}{φ2:o8}{σ2:i4}{J:Nat→Prop} (ht:Tr 0 w J [] [] w' I2 φ2 σ2) (h2:Inv w' I2 φ2 σ2) (hIm:∀c,Im c→I2 c) (hN:∀c,I2 c→Im c∨w.heap.size≤c):
  Inv w' I2 φ σ∧Tr φ.length w Im φ σ w' I2 φ σ:=by
 have hsame:∀c,c<w.heap.size→w'.heap[c]? =w.heap[c]? :=fun c hc=>ht.ext.same c hc (ap4 c)
 refine⟨⟨hi.len,fun b B l a1 a2=> ?_,hi.inj,fun c hc ho=> ?_,h2.im⟩,⟨⟨ht.ext.size,fun c hc _=>hsame c hc,ht.ext.io⟩,fun c hc=> .inl hc,fun _ _=>rfl,hIm,fun c hc=> ?_⟩⟩
 ·have hk:=hi.blk b B l a1 a2
  exact hk.of_heap (fun hp=>hsame _ (hk.lt hp)) ht.ext.size hIm (fun c hc=>hsame c (hi.im c hc)) (l5.refl _)
 ·rcases hN c hc with h | h
  ·exact hi.sep c h ho
  ·have:=hi.own_lt ho;omega
 ·rcases hN c hc with h | h
  ·exact .inl h
  ·exact .inr (.inr h)
theorem av0 {f:D→Option D}{args args' :List D}{vs:List Value}{ψ:o8} (h:L2 f args=some args') (hr:E3 w Im φ args vs) (hf:∀d d' v,i7 w Im φ d v→f d=some d' →i7 w Im' ψ d' v):E3 w Im' ψ args' vs:=by
 obtain⟨h1,h2⟩:=aJ0 h
 refine⟨by rw[h1];exact hr.1,fun i d v a b=> ?_⟩
 obtain⟨d0,hd0⟩:=ab7 h1.symm a
 exact hf d0 d v (hr.2 i d0 v hd0 b) (h2 i d0 d hd0 a)
theorem Inv.join (hi:Inv w' Im φ σ) {φ2:o8}{σ2 s' :i4} (h2:Inv w' Im φ2 σ2) (hdis:∀c,m8 φ2 σ2 c→¬m8 φ σ c) (hs:C6 (tr (M8 fun j=>some (σ.length+j)) l8) σ2=some s'):
  Inv w' Im (φ++φ2) (σ++s')∧(∀c,m8 (φ++φ2) (σ++s') c→m8 φ σ c∨m8 φ2 σ2 c)∧∀d d' v,i7 w' Im φ2 d v→tr (M8 fun j=>some (σ.length+j)) l8 d=some d' →i7 w' Im (φ++φ2) d' v:=by
 obtain⟨h3,h4⟩:=J9 hs
 have hren:∀d d' v,i7 w' Im φ2 d v→tr (M8 fun j=>some (σ.length+j)) l8 d=some d' →i7 w' Im (φ++φ2) d' v:=fun d d' v a b=>
  ak4 (fun _ h=>h) (fun b c l e1 e2=>by
   obtain rfl:=Option.some.inj e1
   rw[←hi.len,List.getElem?_append_right (by omega),show φ.length+b-φ.length=b by omega];exact e2) l8 d d' v a b
 have hlen:s'.length=φ2.length:=by rw[h3,h2.len]
 have hget:∀b B l,sget (σ++s') b=some B→(φ++φ2)[b]? =some l→(b<σ.length∧sget σ b=some B∧φ[b]? =some l)∨(σ.length≤b∧∃B2,sget σ2 (b-σ.length)=some B2∧φ2[b-σ.length]? =some l∧W6 w' Im (φ++φ2) B l):=fun b B l a1 a2=>by
  by_cases hb:b<σ.length
  ·rw[z7 hb] at a1
   rw[List.getElem?_append_left (by rw[hi.len];exact hb)] at a2
   exact .inl ⟨hb,a1,a2⟩
  ·have a1' :sget s' (b-σ.length)=some B:=by
    rw[J5] at a1 ⊢
    rwa [List.getElem?_append_right (by omega)] at a1
   rw[List.getElem?_append_right (by rw[hi.len];omega),hi.len] at a2
   obtain⟨B2,hB2,h5⟩:=h4 _ _ a1'
   exact .inr ⟨by omega,B2,hB2,a2,ah6 (fun _ h=>h) hren (as4 (aq4 _) l8) h5 (h2.blk _ _ _ hB2 a2)⟩
 have hown:∀c,m8 (φ++φ2) (σ++s') c→m8 φ σ c∨m8 φ2 σ2 c:=by
  rintro c ⟨b,B,l,a1,a2,rfl,hp⟩
  rcases hget b B l a2 a1 with⟨_,h6,h7⟩ | ⟨_,B2,h6,h7,_⟩
  ·exact .inl ⟨b,B,l,h7,h6,rfl,hp⟩
  ·exact .inr ⟨_,B2,l,h7,h6,rfl,hp⟩
 refine⟨⟨by simp[hi.len,hlen],fun b B l a1 a2=> ?_,fun b b' B B' l l' hne a1 a2 a3 a4 p1 p2=> ?_,fun c hc ho=> ?_,hi.im⟩,hown,hren⟩
 ·rcases hget b B l a1 a2 with⟨_,h6,h7⟩ | ⟨_,B2,h6,h7,hk⟩
  ·exact(hi.blk b B l h6 h7).of_heap (fun _=>rfl) (Nat.le_refl _) (fun _ h=>h) (fun _ _=>rfl) (l5.append _ _)
  ·exact hk
 ·rcases hget b B l a3 a1 with⟨_,h6,h7⟩ | ⟨hge,B2,h6,h7,_⟩<;>rcases hget b' B' l' a4 a2 with⟨_,g6,g7⟩ | ⟨gge,C2,g6,g7,_⟩
  ·exact hi.inj b b' B B' l l' hne h7 g7 h6 g6 p1 p2
  ·exact fun e=>hdis l'.blk ⟨_,C2,l',g7,g6,rfl,p2⟩ ⟨b,B,l,h7,h6,e,p1⟩
  ·exact fun e=>hdis l.blk ⟨_,B2,l,h7,h6,rfl,p1⟩ ⟨b',B',l',g7,g6,e.symm,p2⟩
  ·exact h2.inj (b-σ.length) (b' -σ.length) B2 C2 l l' (by omega) h7 g7 h6 g6 p1 p2
 ·rcases hown c ho with h | h
  ·exact hi.sep c hc h
  ·exact h2.sep c hc h
end
section
variable {E : E7} {C : Cx} {Q : D → i4 → Prop} {σ : i4} {m : Nat}
theorem aE2:∀{l:List Bool}{q:Qy},i6 E C Q (bd8 l q)→(∀b∈l,b=true)∧i6 E C Q q
 | [],q,h=>⟨fun b hb=>by simp at hb,h⟩
 | b::l,q,h=>by
  obtain⟨h1,h2⟩:=h
  obtain⟨h3,h4⟩:=aE2 h2
  exact⟨fun x hx=>(List.mem_cons.1 hx).elim (fun e=>e▸h1) (h3 x),h4⟩
theorem Y8 {α:Type}{c:α→List Bool}{l:List α} (h:∀b∈l.flatMap c,b=true):∀x∈l,∀b∈c x,b=true:=
 fun x hx b hb=>h b (List.mem_flatMap.2 ⟨x,hx,hb⟩)
theorem aE6 {f g:D→Option D}:∀{l l' :List D},(∀x∈l,∀y,f x=some y→g x=some y)→L2 f l=some l' →L2 g l=some l'
 | [],l',_,e=>e
 | d::r,l',h,e=>by
  simp only[L2] at e ⊢
  split at e
  ·rename_i x y h1 h2
   rw[h d (by simp) _ h1,aE6 (fun x hx=>h x (by simp[hx])) h2];exact e
  ·cases e
theorem br5 {f g:D→Option D}:∀{l l' :List (List D)},(∀r∈l,∀x∈r,∀y,f x=some y→g x=some y)→an1 f l=some l' →an1 g l=some l'
 | [],l',_,e=>e
 | d::r,l',h,e=>by
  simp only[an1] at e ⊢
  split at e
  ·rename_i x y h1 h2
   rw[aE6 (h d (by simp)) h1,br5 (fun x hx=>h x (by simp[hx])) h2];exact e
  ·cases e
theorem cp2 {f g:D→Option D}{c:D→List Bool} (h:∀d d',(∀b∈c d,b=true)→f d=some d' →g d=some d'):∀(n:Nat) (d d' :D),(∀b∈gat c n d,b=true)→tr f n d=some d' →tr g n d=some d'
 | 0,_,_,_,e=>by simp[tr] at e
 | n+1,d,d',hc,e=>by
  have ih:=cp2 h n
  cases d<;>simp only[tr,gat] at e hc ⊢<;>try exact e
  case ptr=>exact h _ _ hc e
  case msl=>exact h _ _ hc e
  case fn=>
   have hc1:=Y8 (fun b hb=>hc b (List.mem_append.2 (.inl hb)))
   have hc2:=Y8 (fun b hb=>hc b (List.mem_append.2 (.inr hb)))
   split at e
   ·rename_i x y h1 h2
    rw[aE6 (fun x hx y=>ih x y (hc1 x hx)) h1,aE6 (fun x hx y=>ih x y (hc2 x hx)) h2];exact e
   ·cases e
  case agg=>
   simp only[Option.map_eq_some_iff] at e ⊢
   obtain⟨x,h1,rfl⟩:=e
   exact⟨x,aE6 (fun x hx y=>ih x y (Y8 hc x hx)) h1,rfl⟩
  case tup=>
   simp only[Option.map_eq_some_iff] at e ⊢
   obtain⟨x,h1,rfl⟩:=e
   exact⟨x,aE6 (fun x hx y=>ih x y (Y8 hc x hx)) h1,rfl⟩
  case iface=>
   simp only[Option.map_eq_some_iff] at e ⊢
   obtain⟨x,h1,rfl⟩:=e
   exact⟨x,ih _ _ hc h1,rfl⟩
theorem cm4:∀(n:Nat) (st:Bool) (d d' :D),(∀b∈cd1 σ m n d,b=true)→bs4 σ m st n d=some d' →W3 σ m st n d=some d'
 | 0,_,_,_,_,e=>by simp[bs4] at e
 | n+1,st,d,d',hc,e=>by
  have ih:=cp2 (cm4 n true) l8
  cases d<;>simp only[bs4,W3,cd1,Bool.cond_eq_ite] at e hc ⊢<;>try (cases e;done)
  ·split at e
   ·rename_i h1;rw[if_pos h1];exact e
   ·rename_i h1
    rw[if_neg h1] at hc ⊢
    split at e
    ·rename_i B hB
     simp only[hB] at hc ⊢
     split at e
     ·rename_i h2
      rw[if_pos h2] at hc ⊢
      split at e
      ·rename_i rows hrows
       rw[br5 (fun r hr x hx y=>ih x y (Y8 (Y8 hc r hr) x hx)) hrows];exact e
      ·cases e
     ·rename_i h2;rw[if_neg h2];exact e
    ·cases e
  ·split at e
   ·rename_i h1;rw[if_pos h1];exact e
   ·rename_i h1
    rw[if_neg h1] at hc ⊢
    split at e
    ·rename_i B hB
     simp only[hB] at hc ⊢
     rw[if_pos (hc _ (by simp))]
     have hc' :=fun b hb=>hc b (List.mem_cons_of_mem _ hb)
     split at e
     ·rename_i h2
      rw[if_pos h2] at hc' ⊢
      split at e
      ·rename_i rows hrows
       rw[br5 (fun r hr x hx y=>ih x y (Y8 (Y8 hc' r hr) x hx)) hrows];exact e
      ·cases e
     ·rename_i h2;rw[if_neg h2];exact e
    ·cases e
theorem cd0 {d d' :D} (hc:∀b∈bK9 σ m d,b=true) (e:bL8 σ m d=some d'):frz σ m d=some d' :=cp2 (cm4 6 false) l8 d d' hc e
theorem cl8 {l l' :List D} (hc:∀b∈l.flatMap (bK9 σ m),b=true) (e:L2 (bL8 σ m) l=some l'):L2 (frz σ m) l=some l' :=aE6 (fun x hx y=>cd0 (Y8 hc x hx)) e
theorem cU1 {f g:D→Option D}{c:D→List Bool} (h:∀d d',(∀b∈c d,b=true)→f d=some d' →g d=some d') {B B' :Option A5} (hc:∀b∈cr4 c B,b=true) (e:az8 f B=some B'):az8 g B=some B' :=by
 cases B with
 | none=>exact e
 | some B=>
  simp only[az8,cr4,Bool.cond_eq_ite] at e hc ⊢
  split at e
  ·rename_i h1
   rw[if_pos h1] at hc ⊢
   simp only[Option.map_eq_some_iff] at e ⊢
   obtain⟨x,h2,rfl⟩:=e
   exact⟨x,br5 (fun r hr x hx y=>h x y (Y8 (Y8 hc r hr) x hx)) h2,rfl⟩
  ·rename_i h1;rw[if_neg h1];exact e
theorem cA5 {f g:D→Option D}{c:D→List Bool} (h:∀d d',(∀b∈c d,b=true)→f d=some d' →g d=some d'):∀{s s' :i4},(∀b∈s.flatMap (cr4 c),b=true)→C6 f s=some s' →C6 g s=some s'
 | [],s',_,e=>e
 | b::r,s',hc,e=>by
  simp only[C6] at e ⊢
  split at e
  ·rename_i x y h1 h2
   rw[cU1 h (fun b' hb=>hc b' (by simp only[List.flatMap_cons,List.mem_append];exact .inl hb)) h1,cA5 h (fun b' hb=>hc b' (by simp only[List.flatMap_cons,List.mem_append];exact .inr hb)) h2];exact e
  ·cases e
end
section
variable {E : E7} {C : Cx} {Q : D → i4 → Prop} {w w' : World} {Im Im' : Nat → Prop} {φ φ' : o8} {σ σ' : i4}
theorem aa2:∀(ids:List Nat) (xs σ:i4),(O3 ids xs σ).length=σ.length
 | [],_,_=>by simp[O3]
 | _::_,[],_=>by simp[O3]
 | b::ids,x::xs,σ=>by simp[O3,aa2 ids xs σ]
theorem bI3:∀(ids:List Nat) (xs σ:i4) (b:Nat),ay3 ids=true→b<σ.length→
  (∃j,ids[j]? =some b∧j<xs.length∧sget (O3 ids xs σ) b=sget xs j)∨((∀j,ids[j]? =some b→xs.length≤j)∧sget (O3 ids xs σ) b=sget σ b)
 | [],xs,σ,b,_,_=> .inr ⟨fun j h=>by simp at h,by simp[O3]⟩
 | x::ids,[],σ,b,_,_=> .inr ⟨fun j _=>by simp,by simp[O3]⟩
 | x::ids,y::xs,σ,b,hnd,hb=>by
  have hnd' :=hnd
  simp only[ay3,Bool.and_eq_true,Bool.not_eq_true'] at hnd'
  by_cases hx:x=b
  ·subst hx
   refine .inl ⟨0,rfl,by simp,?_⟩
   rw[O3,P1 (by rw[aa2];exact hb)]
   unfold sget;cases y<;>rfl
  ·rcases bI3 ids xs σ b hnd'.2 hb with⟨j,h1,h2,h3⟩ | ⟨h1,h2⟩
   ·refine .inl ⟨j+1,by simpa using h1,by simp;omega,?_⟩
    rw[O3,z5 hx,h3]
    unfold sget;simp
   ·refine .inr ⟨fun j hj=> ?_,by rw[O3,z5 hx,h2]⟩
    cases j with
    | zero=>simp at hj;exact absurd hj hx
    | succ j=>have:=h1 j (by simpa using hj);simp;omega
theorem Inv.passed (hi:Inv w Im φ σ) {ids:List Nat} (hnd:ay3 ids=true) (hin:∀b∈ids,b<σ.length) {sub s s' :i4}{φ2:o8}
  (hsub:C6 (tr (M8 fun b=>aB6 ids b 0) l8) (x7 σ ids)=some sub)
  (ht:Tr sub.length w Im (G2 φ ids) sub w' Im' φ2 s) (h2:Inv w' Im' φ2 s)
  (hs:C6 (tr (M8 (au6 ids σ.length)) l8) s=some s') (hn:ids.length≤s'.length):
  Nx w Im φ σ w' Im' (φ++φ2.drop ids.length) (O3 ids s' σ++s'.drop ids.length)∧
  ∀d d' v,i7 w' Im' φ2 d v→tr (M8 (au6 ids σ.length)) l8 d=some d' →i7 w' Im' (φ++φ2.drop ids.length) d' v:=by
 obtain⟨p1,p2⟩:=hi.pick hnd rfl hsub
 obtain⟨q1,q2⟩:=J9 hs
 have hsubl:sub.length=ids.length:=by rw[(J9 hsub).1];simp[x7]
 have hφlen:=hi.len
 have h2len:=h2.len
 have hpre:∀j b,ids[j]? =some b→∃l,φ[b]? =some l∧φ2[j]? =some l:=fun j b hj=>by
  have hb:=hin b (List.mem_of_getElem? hj)
  have hj' :=(List.getElem?_eq_some_iff.1 hj).1
  have hlt:b<φ.length:=by omega
  refine⟨φ[b]'hlt,List.getElem?_eq_getElem hlt,?_⟩
  rw[ht.pre j (by omega),ai0 hj,au5,List.getElem?_eq_getElem hlt]
  rfl
 have hren:∀d d' v,i7 w' Im' φ2 d v→tr (M8 (au6 ids σ.length)) l8 d=some d' →i7 w' Im' (φ++φ2.drop ids.length) d' v:=fun d d' v a b=>
  ak4 (fun _ h=>h) (fun j c l e1 e2=>by
   simp only[au6,Bool.cond_eq_ite] at e1
   split at e1
   ·obtain⟨l',e3,e4⟩:=hpre j c e1
    obtain rfl:=Option.some.inj (e2.symm.trans e4)
    exact l5.append _ _ _ _ e3
   ·rename_i hlt
    have hge:ids.length≤j:=by
     rcases Nat.lt_or_ge j ids.length with h | h
     ·exact absurd (Nat.ble_eq_true_of_le h) hlt
     ·exact h
    obtain rfl:=Option.some.inj e1
    rw[←hφlen,List.getElem?_append_right (by omega),List.getElem?_drop,show ids.length+(φ.length+(j-ids.length)-φ.length)=j by omega]
    exact e2) l8 d d' v a b
 --what a block of the new store is
 have hget:∀b B l,sget (O3 ids s' σ++s'.drop ids.length) b=some B→(φ++φ2.drop ids.length)[b]? =some l→
   (b<σ.length∧(∀j,ids[j]? ≠some b)∧sget σ b=some B∧φ[b]? =some l)∨
   (∃j B2,sget s j=some B2∧φ2[j]? =some l∧W6 w' Im' (φ++φ2.drop ids.length) B l∧((b<σ.length∧ids[j]? =some b)∨(σ.length≤b∧j=ids.length+(b-σ.length)))):=fun b B l a1 a2=>by
  by_cases hb:b<σ.length
  ·rw[z7 (by rw[aa2];exact hb)] at a1
   rw[List.getElem?_append_left (by rw[hφlen];exact hb)] at a2
   rcases bI3 ids s' σ b hnd hb with⟨j,h1,h3,h4⟩ | ⟨h1,h3⟩
   ·rw[h4] at a1
    obtain⟨B2,hB2,h5⟩:=q2 j B a1
    obtain⟨l',e3,e4⟩:=hpre j b h1
    obtain rfl:=Option.some.inj (a2.symm.trans e3)
    exact .inr ⟨j,B2,hB2,e4,ah6 (fun _ h=>h) hren (as4 (aq4 _) l8) h5 (h2.blk _ _ _ hB2 e4),.inl ⟨hb,h1⟩⟩
   ·rw[h3] at a1
    refine .inl ⟨hb,fun j hj=> ?_,a1,a2⟩
    have:=h1 j hj
    have:=(List.getElem?_eq_some_iff.1 hj).1
    omega
  ·have a1' :sget s' (ids.length+(b-σ.length))=some B:=by
    rw[J5] at a1 ⊢
    rw[List.getElem?_append_right (by rw[aa2];omega),List.getElem?_drop,aa2] at a1
    exact a1
   rw[List.getElem?_append_right (by rw[hφlen];omega),List.getElem?_drop,hφlen] at a2
   obtain⟨B2,hB2,h5⟩:=q2 _ B a1'
   exact .inr ⟨_,B2,hB2,a2,ah6 (fun _ h=>h) hren (as4 (aq4 _) l8) h5 (h2.blk _ _ _ hB2 a2),.inr ⟨by omega,rfl⟩⟩
 have hown2:∀c,m8 φ2 s c→m8 φ σ c∨w.heap.size≤c:=fun c hc=>by
  rcases ht.own c hc with h | h
  ·exact .inl (p2 c h)
  ·exact .inr h
 --an untouched block is none of the callee's
 have hfar:∀b B l,sget σ b=some B→φ[b]? =some l→(∀j,ids[j]? ≠some b)→0<l.size→¬m8 (G2 φ ids) sub l.blk∧¬m8 φ2 s l.blk:=fun b B l a1 a2 a3 hp=>by
  have hno:¬m8 (G2 φ ids) sub l.blk:=by
   rintro ⟨j,B',l',e1,e2,e3,hp'⟩
   obtain⟨B0,hB0,_⟩:=(J9 hsub).2 j B' e2
   obtain⟨b',hb',hB'⟩:=aW0 hB0
   obtain⟨l0,hl0,_⟩:=hi.loc hB'
   rw[ai0 hb',au5,hl0] at e1
   obtain rfl:l0=l' :=by simpa using e1
   have hne:b' ≠b:=fun e=>a3 j (e▸hb')
   exact hi.inj b' b B0 B l0 l hne hl0 a2 hB' a1 hp' hp e3
  refine⟨hno,fun ho=> ?_⟩
  rcases ht.own _ ho with h | h
  ·exact hno h
  ·have:=(hi.blk b B l a1 a2).lt hp;omega
 refine⟨⟨l5.append _ _,by simp,⟨⟨ht.ext.size,fun c hc ho=>ht.ext.same c hc (fun h=>ho (p2 c h)),ht.ext.io⟩,fun c hc=> ?_,fun b hb=>by rw[List.getElem?_append_left hb],ht.im,fun c hc=> ?_⟩,⟨?_,fun b B l a1 a2=> ?_,fun b b' B B' l l' hne a1 a2 a3 a4 pp1 pp2=> ?_,fun c hc ho=> ?_,h2.im⟩⟩,hren⟩
 ·obtain⟨b,B,l,a1,a2,rfl,hp⟩:=hc
  rcases hget b B l a2 a1 with⟨_,_,h3,h4⟩ | ⟨j,B2,h3,h4,_,_⟩
  ·exact .inl ⟨b,B,l,h4,h3,rfl,hp⟩
  ·exact hown2 _ ⟨j,B2,l,h4,h3,rfl,hp⟩
 ·rcases ht.imN c hc with h | h | h
  ·exact .inl h
  ·exact .inr (.inl (p2 c h))
  ·exact .inr (.inr h)
 ·simp only[List.length_append,aa2,List.length_drop,hφlen,h2len,q1]
 ·rcases hget b B l a1 a2 with⟨_,h0,h3,h4⟩ | ⟨j,B2,h3,h4,hk,_⟩
  ·have hk:=hi.blk b B l h3 h4
   exact hk.of_heap (fun hp=>ht.ext.same _ (hk.lt hp) (hfar b B l h3 h4 h0 hp).1) ht.ext.size ht.im (fun c hc=>ht.ext.same c (hi.im c hc) (p1.sep c hc)) (l5.append _ _)
  ·exact hk
 ·rcases hget b B l a3 a1 with⟨_,h0,h3,h4⟩ | ⟨j,B2,h3,h4,_,hj⟩<;>rcases hget b' B' l' a4 a2 with⟨_,g0,g3,g4⟩ | ⟨j',C2,g3,g4,_,gj⟩
  ·exact hi.inj b b' B B' l l' hne h4 g4 h3 g3 pp1 pp2
  ·exact fun e=>(hfar b B l h3 h4 h0 pp1).2 ⟨j',C2,l',g4,g3,e.symm,pp2⟩
  ·exact fun e=>(hfar b' B' l' g3 g4 g0 pp2).2 ⟨j,B2,l,h4,h3,e,pp1⟩
  ·refine h2.inj j j' B2 C2 l l' (fun e=> ?_) h4 g4 h3 g3 pp1 pp2
   subst e
   rcases hj with⟨_,hj⟩ | ⟨hj1,hj2⟩<;>rcases gj with⟨_,gj⟩ | ⟨gj1,gj2⟩
   ·exact hne (Option.some.inj (hj.symm.trans gj))
   ·have:=(List.getElem?_eq_some_iff.1 hj).1;omega
   ·have:=(List.getElem?_eq_some_iff.1 gj).1;omega
   ·omega
 ·obtain⟨b,B,l,a1,a2,rfl,hp⟩:=ho
  rcases hget b B l a2 a1 with⟨_,h0,h3,h4⟩ | ⟨j,B2,h3,h4,_,_⟩
  ·rcases ht.imN _ hc with h | h | h
   ·exact hi.sep _ h ⟨b,B,l,h4,h3,rfl,hp⟩
   ·exact(hfar b B l h3 h4 h0 hp).1 h
   ·have:=(hi.blk b B l h3 h4).lt hp;omega
  ·exact h2.sep _ hc ⟨j,B2,l,h4,h3,rfl,hp⟩
theorem aG5 (p:Nat→Bool):∀(i:Nat) (σ:i4),(u9 p i σ).length=σ.length
 | _,[]=>rfl
 | i,_::r=>by simp[u9,aG5 p (i+1) r]
theorem an5 {p:Nat→Bool}:∀{i:Nat}{σ:i4}{b:Nat}{B:A5},sget (u9 p i σ) b=some B→sget σ b=some B∧p (i+b)=true
 | _,[],b,B,h=>by simp[u9,sget] at h
 | i,x::r,0,B,h=>by
  simp only[u9,sget,List.getElem?_cons_zero] at h ⊢
  cases hp:p i with
  | true=>rw[hp] at h;exact⟨h,by simp[hp]⟩
  | false=>rw[hp] at h;simp at h
 | i,x::r,b+1,B,h=>by
  have h' :sget (u9 p (i+1) r) b=some B:=by simpa only[u9,sget,List.getElem?_cons_succ] using h
  obtain⟨h1,h2⟩:=an5 h'
  exact⟨by simpa only[sget,List.getElem?_cons_succ] using h1,by rw[←h2];congr 1;omega⟩
theorem Inv.sel (h:Inv w Im φ σ) (p:Nat→Bool):Inv w Im φ (u9 p 0 σ):=by
 have hg:∀c B,sget (u9 p 0 σ) c=some B→sget σ c=some B:=fun c B hc=>(an5 hc).1
 have hown:∀c,m8 φ (u9 p 0 σ) c→m8 φ σ c:=fun c ⟨b1,B1,l1,h1,h2,h3⟩=>⟨b1,B1,l1,h1,hg _ _ h2,h3⟩
 exact⟨by rw[aG5];exact h.len,fun c B l h1 h2=>h.blk c B l (hg _ _ h1) h2,fun b1 b2 B1 B2 l1 l2 hne h1 h2 h3 h4 p1 p2=>h.inj b1 b2 B1 B2 l1 l2 hne h1 h2 (hg _ _ h3) (hg _ _ h4) p1 p2,
  fun c hc ho=>h.sep c hc (hown c ho),h.im⟩
theorem Inv.give (h:Inv w Im φ σ) (p:Nat→Bool):Inv w (fun c=>Im c∨m8 φ (u9 p 0 σ) c) φ (u9 (fun i=> !(p i)) 0 σ)∧
  Tr φ.length w Im φ σ w (fun c=>Im c∨m8 φ (u9 p 0 σ) c) φ (u9 (fun i=> !(p i)) 0 σ):=by
 have hg:∀q c B,sget (u9 q 0 σ) c=some B→sget σ c=some B:=fun q c B hc=>(an5 hc).1
 have hown:∀q c,m8 φ (u9 q 0 σ) c→m8 φ σ c:=fun q c ⟨b1,B1,l1,h1,h2,h3⟩=>⟨b1,B1,l1,h1,hg _ _ _ h2,h3⟩
 refine⟨⟨by rw[aG5];exact h.len,fun c B l h1 h2=>(h.blk c B l (hg _ _ _ h1) h2).of_heap (fun _=>rfl) (Nat.le_refl _) (fun _ h=> .inl h) (fun _ _=>rfl) (l5.refl _),
  fun b1 b2 B1 B2 l1 l2 hne h1 h2 h3 h4 p1 p2=>h.inj b1 b2 B1 B2 l1 l2 hne h1 h2 (hg _ _ _ h3) (hg _ _ _ h4) p1 p2,fun c hc ho=> ?_,fun c hc=>hc.elim (h.im c) (fun ho=>h.own_lt (hown _ c ho))⟩,
  ⟨⟨Nat.le_refl _,fun _ _ _=>rfl,⟨rfl,rfl,rfl⟩⟩,fun c hc=> .inl (hown _ c hc),fun _ _=>rfl,fun _ h=> .inl h,fun c hc=>hc.elim .inl (fun ho=> .inr (.inl (hown _ c ho)))⟩⟩
 rcases hc with hc | hc
 ·exact h.sep c hc (hown _ c ho)
 ·obtain⟨b1,B1,l1,a1,a2,a3,a4⟩:=hc
  obtain⟨b2,B2,l2,c1,c2,c3,c4⟩:=ho
  obtain⟨a5,a6⟩:=an5 a2
  obtain⟨c5,c6⟩:=an5 c2
  have hne:b1≠b2:=fun e=>by subst e;rw[a6] at c6;cases c6
  exact h.inj b1 b2 B1 B2 l1 l2 hne a1 c1 a5 c5 a4 c4 (a3.trans c3.symm)
theorem cg1 (hi:Inv w Im φ σ) {v:Value}{d:D}{s:i4}{φ2:o8}{I2:Nat→Prop} (ht:Tr 0 w Im [] [] w' I2 φ2 s) (h2:Inv w' I2 φ2 s) (hr:i7 w' I2 φ2 d v) {x:D×i4} (hk' :bg8 d s σ=some x):
  ∃φ' Im',Nx w Im φ σ w' Im' φ' x.2∧i7 w' Im' φ' x.1 v:=by
 have hN:∀c,I2 c→Im c∨w.heap.size≤c:=fun c hc=>by
  rcases ht.imN c hc with h | h | h
  ·exact .inl h
  ·exact absurd h (ap4 c)
  ·exact .inr h
 obtain⟨n1,n2⟩:=hi.past ht h2 ht.im hN
 cases s with
 | nil=>
  have:φ2= []:=List.eq_nil_of_length_eq_zero (by rw[h2.len];rfl)
  subst this
  obtain rfl:=Option.some.inj hk'
  exact⟨φ,I2,⟨l5.refl _,Nat.le_refl _,n2,n1⟩,hr.mono (fun _ h=>h) (fun _ _=>rfl) (l5.nil _)⟩
 | cons b s=>
  simp only[bg8] at hk'
  split at hk'
  ·rename_i d' s' e1 e2
   obtain rfl:=Option.some.inj hk'
   have hdis:∀c,m8 φ2 (b::s) c→¬m8 φ σ c:=fun c hc ho=>by
    rcases ht.own c hc with h | h
    ·exact ap4 c h
    ·have:=hi.own_lt ho;omega
   obtain⟨j1,j2,j3⟩:=n1.join h2 hdis e2
   refine⟨_,I2,⟨l5.append _ _,by simp,⟨n2.ext,fun c hc=> ?_,fun b hb=>by rw[List.getElem?_append_left hb],n2.im,n2.imN⟩,j1⟩,j3 d d' v hr e1⟩
   rcases j2 c hc with h | h
   ·exact .inl h
   ·rcases ht.own c h with h | h
    ·exact absurd h (ap4 c)
    ·exact .inr h
  ·cases hk'
theorem bB9 (hgl:GlOk E w Im) (hi:Inv w Im φ σ) {f:FuncId}{args:List D}{vs:Array Value} (hargs:E3 w Im φ args vs.toList) {p:bZ7} (h:aO1 E f args σ=some p) (hneed:∀b∈p.ns,b=true) {Qc:D→i4→Prop} (hs:l4 E f p.args p.sub Qc):
  Calls E.P f vs w fun e w' =>∃v d s,e=.returned v∧Qc d s∧∀x,p.back d s=some x→∃φ' Im',Nx w Im φ σ w' Im' φ' x.2∧i7 w' Im' φ' x.1 v:=by
 unfold aO1 at h
 split at h
 ·rename_i args' hm
  obtain rfl:=Option.some.inj h
  refine(hs w Im [] vs hgl (Inv.nil hi.im) (av0 hm hargs (fun d d' v a b=>aH6 l8 d d' v a b))).mono ?_
  rintro e w' ⟨v,d,s,φ2,I2,rfl,ht,h2,hr,hq⟩
  exact⟨v,d,s,rfl,hq,fun x hx=>cg1 hi ht h2 hr hx⟩
 ·simp only[Bool.cond_eq_ite] at h
  split at h
  ·split at h
   ·rename_i args' sub h1 h2 h3
    obtain rfl:=Option.some.inj h
    simp only[Bool.and_eq_true] at h1
    obtain⟨h0,h0'⟩:=h1
    obtain⟨hnd,-⟩:=bh3 h0
    obtain⟨p1,p2⟩:=hi.pick hnd rfl h3
    refine(hs w Im _ vs hgl p1 (av0 h2 hargs (fun d d' v a b=>ak4 (fun _ h=>h) br4 l8 d d' v a b))).mono ?_
    rintro e w' ⟨v,d,s,φ2,I2,rfl,ht,hi2,hr,hq⟩
    refine⟨v,d,s,rfl,hq,fun x hx=> ?_⟩
    simp only at hx
    split at hx
    ·rename_i d' s' e1 e2
     split at hx
     ·rename_i hn
      obtain rfl:=Option.some.inj hx
      obtain⟨j1,j2⟩:=hi.passed hnd (fun b hb=>Nat.lt_of_succ_le (Nat.le_of_ble_eq_true (List.all_eq_true.1 h0' b hb))) h3 ht hi2 e2 (Nat.le_of_ble_eq_true hn)
      exact⟨_,_,j1,j2 d d' v hr e1⟩
     ·cases hx
    ·cases hx
   ·cases h
  ·generalize hids:ai5 σ 200 [] (args.flatMap (ae7 l8))=ids at h
   split at h
   ·rename_i args' hm0
    obtain rfl:=Option.some.inj h
    have hm:=cl8 hneed hm0
    have hir:=hi.sel (fun i=>ids.contains i)
    have hgv:=hi.give (fun i=>ids.contains i)
    generalize u9 (fun i=>ids.contains i) 0 σ=σr at hm hir hgv
    have hIm:∀c,Im c→(Im c∨m8 φ σr c):=fun c h=> .inl h
    have hfr:∀d d' v,i7 w Im φ d v→frz σr 0 d=some d' →i7 w (fun c=>Im c∨m8 φ σr c) [] d' v:=fun d d' v a b=>by
     have hown:∀(b:Nat) (B:A5) (l:Q3),0≤b→sget σr b=some B→φ[b]? =some l→0<l.size→(fun c=>Im c∨m8 φ σr c) l.blk:=fun b B l _ a2 a3 hp=> .inr ⟨b,B,l,a3,a2,rfl,hp⟩
     exact aR0 hIm (fun b i o d' v a b' =>ad4 hir hIm hown 6 false _ (fun _ b l hb=>by omega) _ d' v (fun _ _ _ _=>trivial) a b') (fun b i len lo ex d' v a b' =>ad4 hir hIm hown 6 false _ (fun _ b l hb=>by omega) _ d' v (fun _ _ _ _=>trivial) a b') l8 d d' v a b
    refine(hs w (fun c=>Im c∨m8 φ σr c) [] vs (hgl.mono (fun _ h=> .inl h) (fun _ _=>rfl)) (Inv.nil (fun c hc=>hc.elim (hi.im c) hir.own_lt)) (av0 hm hargs hfr)).mono ?_
    rintro e w' ⟨v,d,s,φ2,I2,rfl,ht,h2,hr,hq⟩
    have ht' :Tr 0 w (fun c=>Im c∨m8 φ σr c) [] [] w' I2 φ2 s:=ht
    refine⟨v,d,s,rfl,hq,fun x hx=> ?_⟩
    cases hc:(s.isEmpty&&ap5 4 d) with
    | true=>
     simp only[hc,if_true] at hx
     obtain rfl:=Option.some.inj hx
     simp only[Bool.and_eq_true] at hc
     have hp:=hc.2
     have hsame:∀c,c<w.heap.size→w'.heap[c]? =w.heap[c]? :=fun c hc=>ht'.ext.same c hc (ap4 c)
     exact⟨φ,Im,⟨l5.refl _,Nat.le_refl _,⟨⟨ht'.ext.size,fun c hc _=>hsame c hc,ht'.ext.io⟩,fun c hc=> .inl hc,fun _ _=>rfl,fun _ h=>h,fun _ h=> .inl h⟩,
       ⟨hi.len,fun b B l a1 a2=>(hi.blk b B l a1 a2).of_heap (fun hp=>hsame _ ((hi.blk b B l a1 a2).lt hp)) ht'.ext.size (fun _ h=>h) (fun c hc=>hsame c (hi.im c hc)) (l5.refl _),hi.inj,hi.sep,fun c hc=>Nat.lt_of_lt_of_le (hi.im c hc) ht'.ext.size⟩⟩,bm2 4 d v hp hr⟩
    | false=>
     simp only[hc,Bool.false_eq_true,if_false] at hx
     obtain⟨φ',Im',n,hr'⟩:=cg1 hgv.1 ht' h2 hr hx
     exact⟨φ',Im',⟨n.le,n.len,hgv.2.trans n.tr,n.inv⟩,hr'⟩
   ·cases h
theorem cI7 (hgl:GlOk E w Im) (hi:Inv w Im φ σ) {f:FuncId}{args:List D}{vs:Array Value} (hargs:E3 w Im φ args vs.toList) {k:D→i4→Qy} (h:i6 E C Q (cs2 E f args σ k)):
  Calls E.P f vs w fun e w' =>∃v d σ' φ' Im',e=.returned v∧Nx w Im φ σ w' Im' φ' σ' ∧i7 w' Im' φ' d v∧i6 E C Q (k d σ'):=by
 unfold cs2 at h
 split at h
 ·rename_i p hp
  obtain⟨hneed,h⟩:=aE2 h
  obtain⟨Qc,hs,hk⟩:=h
  refine(bB9 hgl hi hargs hp hneed hs).mono ?_
  rintro e w' ⟨v,d,s,rfl,hq,hx⟩
  have hk' :=hk d s hq
  simp only at hk'
  cases hb:p.back d s with
  | none=>rw[hb] at hk';exact hk'.elim
  | some x=>
   rw[hb] at hk'
   obtain⟨φ',Im',n,hr⟩:=hx x hb
   exact⟨v,x.1,x.2,φ',Im',rfl,n,hr,hk'⟩
 ·exact h.elim
end
section
variable {E : E7} {C C' : Cx} {Q : D → i4 → Prop} {w w' : World} {Im Im' : Nat → Prop} {φ φ' : o8} {σ σ' : i4}
theorem U6.get {ln s:i4} (h:U6 ln s) {b:Nat} (hb:b<ln.length):s[b]? =ln[b]? :=by
 unfold U6 at h
 have:(s.take ln.length)[b]? =ln[b]? :=by rw[h]
 rwa [List.getElem?_take,if_pos hb] at this
theorem U6.sget {ln s:i4} (h:U6 ln s) {b:Nat} (hb:b<ln.length):sget s b=sget ln b:=by
 unfold Go.RX.sget
 rw[h.get hb]
theorem bf5 {s:i4}{b:Nat}{B:A5} (h:sget s b=some B):b<s.length:=by
 rw[J5] at h
 exact(List.getElem?_eq_some_iff.1 h).1
theorem Inv.first (hi:Inv w Im φ σ) {ln:i4}{φ0:o8} (hl:U6 ln σ) (hp:l5 φ0 φ) (hn:φ0.length=ln.length) (hc:ba7 ln):Inv w Im φ0 ln∧∀c,m8 φ0 ln c→m8 φ σ c:=by
 have hown:∀c,m8 φ0 ln c→m8 φ σ c:=fun c ⟨b,B,l,h1,h2,h3⟩=>⟨b,B,l,hp b l h1,by rw[hl.sget (bf5 h2)];exact h2,h3⟩
 have hg:∀{b:Nat}{B:A5},Go.RX.sget ln b=some B→Go.RX.sget σ b=some B:=fun {b B} h=>by rw[hl.sget (bf5 h)];exact h
 refine⟨⟨hn,fun b B l h1 h2=> ?_,fun b b' B B' l l' hne h1 h2 h3 h4 p1 p2=>hi.inj b b' B B' l l' hne (hp _ _ h1) (hp _ _ h2) (hg h3) (hg h4) p1 p2,fun c h1 h2=>hi.sep c h1 (hown c h2),hi.im⟩,hown⟩
 obtain⟨B0,hB0,hm⟩:=(J9 hc).2 b B h1
 refine ah6 (fun _ h=>h) (fun d d' v a b' =>ak4 (fun _ h=>h) (fun b1 c1 l1 e1 e2=> ?_) l8 d d' v a b') (as4 (aq4 _) l8) hm (hi.blk b B0 l (hg hB0) (hp _ _ h2))
 simp only[idH,Bool.cond_eq_ite] at e1
 split at e1
 ·rename_i hb
  obtain rfl:=Option.some.inj e1
  have hlt:b1<φ0.length:=by rw[hn];exact Nat.lt_of_succ_le (Nat.le_of_ble_eq_true hb)
  have h3:φ0[b1]? =some φ0[b1]:=List.getElem?_eq_getElem hlt
  rw[h3,←e2,hp _ _ h3]
 ·cases e1
theorem Inv.partner (hi:Inv w Im φ σ) {ln:i4}{φ0:o8} (hl:U6 ln σ) (hp:l5 φ0 φ) (hn:φ0.length=ln.length) (hc:ba7 ln) {X X' :Nat→Prop} (hx:XOk w Im X) (hd:∀c,X c→¬m8 φ σ c) (h:bZ3 (fun c=>X c∨m8 φ0 ln c) w Im w' Im' X')
  (h2:Inv w' Im' φ0 ln) (h3:∀c,X' c→¬m8 φ0 ln c):Inv w' Im' φ σ∧(∀c,X' c→¬m8 φ σ c)∧∀c,Im c→w'.heap[c]? =w.heap[c]? :=by
 obtain⟨f1,f2⟩:=hi.first hl hp hn hc
 have hIm:∀c,Im c→w'.heap[c]? =w.heap[c]? :=fun c hc=>h.same c (hi.im c hc) fun hX=>hX.elim (fun hX=>hx.im c hX hc) (f1.sep c hc)
 --a block of the store:lent,or far from those
 have hcase:∀b B l,sget σ b=some B→φ[b]? =some l→0<l.size→(sget ln b=some B∧φ0[b]? =some l)∨¬m8 φ0 ln l.blk:=fun b B l a1 a2 a3=>by
  by_cases hb:b<ln.length
  ·left
   have hlt:b<φ0.length:=by omega
   have e3:φ0[b]? =some φ0[b]:=List.getElem?_eq_getElem hlt
   have e4:=hp _ _ e3
   rw[a2] at e4
   refine⟨by rw[←hl.sget hb];exact a1,by rw[e3,←e4]⟩
  ·right
   rintro ⟨b',B',l',e1,e2,e3,e4⟩
   have hb' :=bf5 e2
   exact hi.inj b' b B' B l' l (by omega) (hp _ _ e1) a2 (by rw[hl.sget hb'];exact e2) a1 e4 a3 e3
 refine⟨⟨hi.len,fun b B l a1 a2=> ?_,hi.inj,fun c hc ho=> ?_,h.imS⟩,fun c hc ho=> ?_,hIm⟩
 ·by_cases hb:b<ln.length
  ·have hlt:b<φ0.length:=by omega
   have e3:φ0[b]? =some φ0[b]:=List.getElem?_eq_getElem hlt
   have e4:=hp _ _ e3
   rw[a2] at e4
   have hk:=h2.blk b B l (by rw[←hl.sget hb];exact a1) (by rw[e3,←e4])
   exact hk.of_heap (fun _=>rfl) (Nat.le_refl _) (fun _ h=>h) (fun _ _=>rfl) hp
  ·have hk:=hi.blk b B l a1 a2
   refine hk.of_heap (fun hpos=>h.same _ (hk.lt hpos) fun hX=>hX.elim (fun hX=>hd _ hX ⟨b,B,l,a2,a1,rfl,hpos⟩) fun hX=> ?_) h.size h.im hIm (l5.refl _)
   rcases hcase b B l a1 a2 hpos with⟨g1,_⟩ | g
   ·exact hb (bf5 g1)
   ·exact g hX
 ·obtain⟨b,B,l,a1,a2,rfl,hpos⟩:=ho
  rcases hcase b B l a2 a1 hpos with⟨g1,g2⟩ | g
  ·exact h2.sep _ hc ⟨b,B,l,g2,g1,rfl,hpos⟩
  ·rcases h.imN _ hc with h1 | h1 | h1
   ·exact hi.sep _ h1 ⟨b,B,l,a1,a2,rfl,hpos⟩
   ·exact h1.elim (fun h1=>hd _ h1 ⟨b,B,l,a1,a2,rfl,hpos⟩) g
   ·have:=(hi.blk b B l a2 a1).lt hpos;omega
 ·obtain⟨b,B,l,a1,a2,rfl,hpos⟩:=ho
  rcases hcase b B l a2 a1 hpos with⟨g1,g2⟩ | g
  ·exact h3 _ hc ⟨b,B,l,g2,g1,rfl,hpos⟩
  ·rcases h.xN _ hc with h1 | h1
   ·exact h1.elim (fun h1=>hd _ h1 ⟨b,B,l,a1,a2,rfl,hpos⟩) g
   ·have:=(hi.blk b B l a2 a1).lt hpos;omega
theorem Mv.yield (hit:C.it=true) (hrb:C.rb=false) (hi:Inv w Im φ σ) {Y:Option (List (List D))}{n0:Nat}{G X X' :Nat→Prop} (hq:l5 C.lp0 φ∧C.lp0.length=C.ln.length∧C.lp0.length≤C.m∧ba7 C.ln) (hl:U6 C.ln σ) (hp:br2 E.P C.lp C.J n0 G C.lp0 C.ln) (h1:n0≤w.heap.size) (h2:∀c,m8 φ σ c→G c∨n0≤c) (hx:XOk w Im X) (hd:∀c,X c→¬m8 φ σ c)
  (hJ:C.J Y w' Im' X') (h:bZ3 (fun c=>X c∨m8 C.lp0 C.ln c) w Im w' Im' X') (h4:Inv w' Im' C.lp0 C.ln) (h5:∀c,X' c→¬m8 C.lp0 C.ln c):Mv E C w Im φ σ (C.tell Y) w' Im' φ σ:=by
 obtain⟨p1,p2,p3⟩:=hi.partner hl hq.1 hq.2.1 hq.2.2.2 hx hd h h4 h5
 refine⟨l5.refl _,Nat.le_refl _,h.im,p3,p1,fun lo ds hs=>⟨Nat.le_trans hs.low h.size,hs.gl.mono h.im p3,fun _=>⟨hq,n0,G,X',hp,Nat.le_trans h1 h.size,h2,h.ok,p2,hJ⟩,?_⟩,⟨Y,rfl⟩,fun lo Q e a w2 hd=>⟨fun hr=> ?_,fun hr=> ?_⟩⟩
 ·obtain⟨Ds,hm⟩:=hs.mks
  obtain rfl:=hm.none hit
  exact⟨[],hm.eq,fun _=>rfl,List.nodup_nil,fun b hb=>by simp at hb⟩
 ·rw[hrb] at hr;cases hr
 ·obtain⟨g1,Ds,g3,g4,g5,g6,g7⟩:=hd.2 hr
  refine⟨g1,Ds,g3,g4,g5,g6,fun w'' hs=> ?_⟩
  obtain⟨v,d,s,p,I,k1,k2,k3,k4,k5,k6⟩:=g7 w'' hs
  refine⟨v,d,s,p,I,k1,fun hh=> ?_,k3,k4,k5,k6⟩
  rw[hit] at hh;cases hh
theorem aD2 {ks:Bool}{F:Fence}{nf:Nat} (hF:OkC C F) {lo:Nat}{ds:List Deferred} (hi:Inv w Im φ σ) (hm:C.m≤φ.length) (hsd:bz0 E C lo w Im φ σ ds) {o:Oper} (hnd:∀c,o.op≠.defer c) {a:Act}{k:D→i4→Qy}{next:Act→World→Prop}{R:Exit→Act→World→Prop}
  (hk:∀v d σ' C' w' Im' φ',Mv E C w Im φ σ C' w' Im' φ' σ' →i7 w' Im' φ' d v→i6 E C' Q (k d σ')→next (a.put o.dst v) w'):
  ∀(r:p9),aq2 E.P w Im φ σ (execOp a.eval o) r→i6 E C Q (conv E false ks k σ r)→o.wpIn F nf E.P a w next R
 | .ok d σ',⟨v,w',φ',h1,h2⟩,h=>by
  have:=hk v d σ' C w' Im φ' ((h2.nx h2.le.length).mv hi hm) h2.rel h
  refine hF.ok.wp hnd ?_
  unfold Oper.wp
  rcases h1 with h1 | ⟨h1,rfl⟩
  ·rw[h1];exact this
  ·rw[h1];exact this
 | .need b q,hs,h=>aD2 hF hi hm hsd hnd hk q (hs h.1) h.2
 | .split b q,hs,h=>aD2 hF hi hm hsd hnd hk (q b) hs h
 | .row r q,hs,h=>let ⟨x,hx,h'⟩:=h;aD2 hF hi hm hsd hnd hk (q x) (hs x hx) h'
 | .rows r q,hs,h=>aD2 hF hi hm hsd hnd hk (q r) hs h
 | .any p q,hs,h=>let ⟨b,hb,h'⟩:=hs;aD2 hF hi hm hsd hnd hk (q b) h' (h b hb)
 | .str r q,hs,h=>let ⟨x,hx,h'⟩:=h;aD2 hF hi hm hsd hnd hk (q x) (hs x hx) h'
 | .call f args,⟨vs,h1,h2,h3⟩,h=>by
  refine hF.ok.wp hnd ?_
  unfold Oper.wp
  rw[h1]
  refine(cI7 hsd.gl hi (vs:=vs) ⟨by simpa using h2,fun i d v a b=>h3 i d v a (by simpa using b)⟩ h).mono ?_
  rintro e w' ⟨v,d,σ',φ',Im',rfl,n,hr,hq⟩
  exact hk v d σ' C w' Im' φ' (n.mv hi hm) hr hq
 | .yld l args,⟨vs,h1,h2,h3⟩,h=>by
  simp only[conv,cond_false] at h
  split at h
  ·rename_i y hy
   obtain⟨hit,hrb,rfl,hlt,Y,hY,q1,q2⟩:=h
   obtain⟨hph,n0,G,X,hp,g1,g2,g3,g4,g5⟩:=hsd.an hit
   obtain⟨f1,f2⟩:=hi.first hlt hph.1 hph.2.1 hph.2.2.2
   have hy' :E3 w Im [] y vs.toList:=av0 hy ⟨by simpa using h2,fun i d v a b=>h3 i d v a (by simpa using b)⟩ (fun d d' v a b=>aH6 l8 d d' v a b)
   rw[hY] at g5
   obtain⟨fn,tmps,asg,body,y1,y2⟩:=hp.yields y Y w Im X vs g5 g3 hi.im hy' f1 (fun c hc ho=>g4 c hc (f2 c ho))
   obtain rfl:=hF.1 hrb
   refine⟨fun f _=>trivial,?_⟩
   rw[Oper.semAt_eq _ _ _ hnd,h1,y1]
   refine⟨fun hd=>absurd hd (by simp[Fence.wide]),?_⟩
   have y3:RoundIn Fence.wide (nf-1) E.P C.lp fn tmps asg body w _:=⟨y2.1,fun c cs _=>y2.2 c cs (room_wide _)⟩
   refine y3.mono ?_
   rintro e w' ⟨b,Im',X',rfl,hJ,hs,hs4,hs5⟩
   have mv:∀Y',C.J Y' w' Im' X' →Mv E C w Im φ σ (C.tell Y') w' Im' φ σ:=fun Y' hJ' =>Mv.yield hit hrb hi hph hlt hp g1 g2 g3 g4 hJ' hs hs4 hs5
   cases b with
   | true=>exact hk _ _ _ _ _ _ _ (mv _ hJ) (.bool true) q1
   | false=>exact hk _ _ _ _ _ _ _ (mv _ hJ) (.bool false) q2
  ·exact h.elim
 | .bad,_,h=>h.elim
theorem ao6.step {lo:Nat}{fr:Fr}{a:Act} (h:ao6 E C lo w Im φ fr σ a) (n:Mv E C w Im φ σ C' w' Im' φ' σ') {dst:Option Nat} (hd:aU4 C.fn.ntmps dst=true) {d:D}{v:Value} (hr:i7 w' Im' φ' d v) {fr' :Fr}
  (hfr:∀t,i7 w Im φ (o5 fr' t) (a.tmps.getD t undef)):ao6 E C' lo w' Im' φ' (put fr' dst d) σ' (a.put dst v):=by
 obtain⟨Y,rfl⟩:=n.cx
 exact⟨bL9 (fun t=>n.rel (hfr t)) h.sz hd hr,n.inv,by rw[cC9];exact n.sd _ _ h.sd,by rw[cf3];exact h.sz,Nat.le_trans h.m n.len⟩
theorem Mv.refl (hi:Inv w Im φ σ):Mv E C w Im φ σ C w Im φ σ:=
 ⟨l5.refl _,Nat.le_refl _,fun _ h=>h,fun _ _=>rfl,hi,fun _ _ h=>h,⟨C.Y,rfl⟩,fun _ _ _ _ _ h=>h⟩
theorem cA2 {fr:Fr}{a:Nat→Value} (h:∀t,i7 w Im φ (o5 fr t) (a t)) {s:Nat}{b:Bool} (hb:o5 fr s=.bool b) (t:Nat):i7 w Im φ (o5 (ai4 fr s (.bool b)) t) (a t):=by
 simp only[ai4,o5,Bool.cond_eq_ite]
 split
 ·rename_i he
  have:=Nat.eq_of_beq_eq_true he
  subst this
  have:=h s
  rw[hb] at this
  exact this
 ·exact h t
theorem bD0 {all:List Oper}{j s:Nat} (hs:(match all[j]? with | some g=>g.dst | none=>none)=some s):((all.toArray[j]?).bind (·.dst))=some s:=by
 rw[←hs];simp only[List.getElem?_toArray];cases all[j]? <;>rfl
theorem bd4 {all:List Oper}{a:Act}{j s:Nat}{b:Bool} (hs:(match all[j]? with | some g=>g.dst | none=>none)=some s) (hv:a.tmps.getD s undef=.bool b):yielded all.toArray a.tmps j=some b:=by
 have hlt:s<a.tmps.size:=by
  rcases Nat.lt_or_ge s a.tmps.size with hlt | hge
  ·exact hlt
  ·exfalso
   have:a.tmps.getD s undef=undef:=by simp[Array.getD,Nat.not_lt.2 hge]
   rw[this] at hv;cases hv
 have h1:a.tmps[s]? =some (.bool b):=by rw[←hv];simp[hlt]
 unfold yielded
 rw[bD0 hs]
 simp only[Option.bind_some,h1]
theorem bU3 {all:List Oper}{a:Act}{j s:Nat}{us:Array Value} (hs:(match all[j]? with | some g=>g.dst | none=>none)=some s) (hv:a.tmps.getD s undef=.tuple us):yielded all.toArray a.tmps j=none:=by
 unfold yielded
 rw[bD0 hs]
 simp only[Option.bind_some]
 by_cases hlt:s<a.tmps.size
 ·have h1:a.tmps[s]? =some (.tuple us):=by rw[←hv];simp[hlt]
  rw[h1]
 ·have h1:a.tmps[s]? =none:=by simp;omega
  rw[h1]
theorem bq9 {P:Program}{ρ:Operand→D}{o:Oper}{s:i4}{c:Call} (h:o.op=.defer c):R8 P ρ o s=.bad:=by
 unfold R8;rw[h]
theorem cx1 {F:Fence}{n:Nat} (hF:OkC C F) {lo:Nat}{fr:Fr}{a:Act} (h:ao6 E C lo w Im φ fr σ a) {all:List Oper}{o:Oper}{rest:List Oper}{R:Exit→Act→World→Prop}{k:Fr→i4→Qy}
  (hk:∀C' fr' σ' w' Im' φ' a',Mv E C w Im φ σ C' w' Im' φ' σ' →ao6 E C' lo w' Im' φ' fr' σ' a' →i6 E C' Q (k fr' σ')→wpListIn F n E.P all.toArray R rest a' w')
  (hq:i6 E C Q (aX9 E false C.fn.ntmps all o fr σ k)):wpListIn F n E.P all.toArray R (o::rest) a w:=by
 unfold aX9 at hq
 cases hd:aU4 C.fn.ntmps o.dst with
 | false=>simp only[hd,cond_false] at hq;exact hq.elim
 | true=>
  simp only[hd,cond_true,Bool.false_and,cond_false] at hq
  have hnx:Mv E C w Im φ σ C w Im φ σ:=.refl h.inv
  have run:∀fr',(∀t,i7 w Im φ (o5 fr' t) (a.tmps.getD t undef))→i6 E C Q (conv E false (kOp E.kp o.op) (fun d s=>k (put fr' o.dst d) s) σ (R8 E.P (C4 E.gl fr') o σ))→o.wpIn F n E.P a w (wpListIn F n E.P all.toArray R rest) R:=fun fr' hfr' hq' =>
   aD2 hF h.inv h.m h.sd (fun c hc=>by rw[bq9 hc] at hq';exact hq'.elim) (fun v d σ' C' w' Im' φ' n hr hq=>hk C' _ σ' w' Im' φ' _ n (h.step n hd hr hfr') hq) _ (aZ2 h.inv (fun x=>an4 h.sd.gl hfr' x) o) hq'
  have skip:∀fr',(∀t,i7 w Im φ (o5 fr' t) (a.tmps.getD t undef))→i6 E C Q (k (put fr' o.dst (.tup [])) σ)→wpListIn F n E.P all.toArray R rest (a.put o.dst undef) w:=fun fr' hfr' hq' =>
   hk C _ σ w Im φ _ hnx (h.step hnx hd (.tup [] #[] rfl (fun i d v a=>by simp at a)) hfr') hq'
  simp only[wpListIn]
  cases hg:o.guard with
  | none=>
   simp only[hg] at hq
   rw[if_pos (by simp[Region.wanted,hg])]
   exact run fr h.fr hq
  | some gw=>
   obtain⟨j,want⟩:=gw
   simp only[hg] at hq
   split at hq
   ·exact hq.elim
   ·rename_i s hs
    have hrs:=h.fr s
    split at hq
    ·rename_i b hb
     rw[hb] at hrs
     have hv:=hrs.bool_inv
     have hy:=bd4 (j:=j) hs hv
     have hq' :i6 E C Q (bif b==want then conv E false (kOp E.kp o.op) (fun d st=>k (put (ai4 fr s (.bool b)) o.dst d) st) σ (R8 E.P (C4 E.gl (ai4 fr s (.bool b))) o σ) else k (put (ai4 fr s (.bool b)) o.dst (.tup [])) σ):=hq
     have hfr' :=cA2 h.fr hb
     have hwant:Region.wanted o (yielded all.toArray a.tmps)=(b==want):=by
      simp only[Region.wanted,hg,hy]
      cases b<;>cases want<;>rfl
     rw[hwant]
     cases hbw:(b==want) with
     | true=>
      rw[hbw] at hq'
      rw[if_pos rfl]
      exact run _ hfr' hq'
     | false=>
      rw[hbw] at hq'
      rw[if_neg (by simp)]
      exact⟨fun f _=>hF.ok.fn f,skip _ hfr' hq'⟩
    ·rename_i vs hb
     rw[hb] at hrs
     obtain⟨us,hv,_⟩:=hrs.tup_inv
     have hy:=bU3 (j:=j) hs hv
     have hwant:Region.wanted o (yielded all.toArray a.tmps)=false:=by
      simp only[Region.wanted,hg,hy]
      cases want<;>rfl
     rw[hwant,if_neg (by simp)]
     exact⟨fun f _=>hF.ok.fn f,skip fr h.fr hq⟩
    ·exact hq.elim
theorem cr8 {F:Fence}{n:Nat}{P:Program}{c:Code}{R:Exit→Act→World→Prop}{a:Act} (h:bp0 F n P c R a w):(Code.loop c).wpIn F n P R a w:=fun b k cs hro hb hr=>
 let ⟨e,a',w',q,r⟩:=h b k cs hro hb hr
 ⟨e,a',w',q,.of_steps (.one (fenced_calm hb hr rfl) stepR_loop) r⟩
theorem cj1 {F:Fence}{n:Nat}{P:Program}{c:Code}{R:Exit→Act→World→Prop}{a:Act} (h:c.wpIn F n P (Exit.then (bp0 F n P c R) R) a w):bp0 F n P c R a w:=by
 intro b k cs hro hb hr
 obtain⟨e,a₁,w₁,hq,harr⟩:=h b (.inLoop c::k) cs hro hb hr
 cases e with
 | normal=>
  obtain⟨e₂,a₂,w₂,hq₂,harr₂⟩:=hq b k cs hro hb hr
  exact⟨e₂,a₂,w₂,hq₂,.of_steps (StepsIn.trans harr (.one (fenced_calm hb hr rfl) stepR_inLoop)) harr₂⟩
 | exit id=>exact⟨_,a₁,w₁,hq,.pass (x:=.inLoop c) rfl (fun _ _=> .inl (by simp)) harr⟩
 | goto l=>exact⟨_,a₁,w₁,hq,.pass (x:=.inLoop c) rfl (fun _ _=> .inl (by simp)) harr⟩
 | ret=>exact⟨_,a₁,w₁,hq,.pass (x:=.inLoop c) rfl (fun _ _=> .inl (by simp)) harr⟩
 | panic ch=>exact⟨_,a₁,w₁,hq,.pass (x:=.inLoop c) rfl (fun _ _=> .inl (by simp)) harr⟩
 | outgrown=>exact⟨_,a₁,w₁,hq,.pass (x:=.inLoop c) rfl (fun _ _=> .inl (by simp)) harr⟩
theorem bj8 {F:Fence}{n:Nat}{P:Program}{c:Code}{R:Exit→Act→World→Prop}{a:Act} (h:c.wpIn F n P (Exit.noGoto R) a w):(Code.scope c).wpIn F n P R a w:=by
 intro b k cs hro hb hr
 have h1:step P (lone (b.atR a (.code (.scope c)::k)) cs w)=.next (lone (b.atR a (.code c::.inScope c::k)) cs w):=
  step_lone_go (by simp[stepG,stepG.exec,Frame.atR])
 have h2:∀a w,step P (lone (b.atR a (.inScope c::k)) cs w)=.next (lone (b.atR a k) cs w):=fun a w=>
  step_lone_go (by simp[stepG,stepG.exec,Frame.atR])
 have h0:(lone (b.atR a (.code (.scope c)::k)) cs w).fenced P F:=fenced_calm hb hr rfl
 obtain⟨e,a₁,w₁,hq,harr⟩:=h b (.inScope c::k) cs hro hb hr
 cases e with
 | normal=>exact⟨.normal,a₁,w₁,hq,.head h0 h1 (StepsIn.trans harr (.one (fenced_calm hb hr rfl) (h2 _ _)))⟩
 | exit id=>exact⟨.exit id,a₁,w₁,hq,fun k' hk=> .head h0 h1 (harr.1 k' (by simp[exitTo,hk])),fun hr' hk=>let ⟨k₁,g1,g2⟩:=harr.2 hr' (by simp[exitTo,hk]);⟨k₁,g1,.head h0 h1 g2⟩⟩
 | goto l=>exact hq.elim
 | ret=>exact⟨_,a₁,w₁,hq,.of_steps (.one h0 h1) harr⟩
 | panic ch=>exact⟨_,a₁,w₁,hq,.of_steps (.one h0 h1) harr⟩
 | outgrown=>exact⟨_,a₁,w₁,hq,.of_steps (.one h0 h1) harr⟩
theorem aD4 {F:Fence}{n:Nat}{P:Program}{R:Exit→Act→World→Prop}:∀(t:List It) (a:Act) (w:World),R .ret a w→sem F n P R t .ret a w
 | [],_,_,h=>h
 | .blk _::t,a,w,h=>aD4 t a w h
 | .sc::t,a,w,h=>aD4 t a w h
 | .code _::t,a,w,h=>aD4 t a w h
 | .lp _ _::t,a,w,h=>aD4 t a w h
 | .lpc _ _::t,a,w,h=>aD4 t a w h
 | .ops _ _::t,a,w,h=>aD4 t a w h
theorem aw0 {F:Fence}{n:Nat}{P:Program}{R:Exit→Act→World→Prop}{id:Nat}:∀(t t' :List It) (a:Act) (w:World),aT5 id t=some t' →sem F n P R t' .normal a w→sem F n P R t (.exit id) a w
 | [],_,_,_,h,_=>by simp[aT5] at h
 | .blk j::t,t',a,w,h,hs=>by
  simp only[aT5,Bool.cond_eq_ite] at h
  split at h
  ·rename_i hj
   obtain rfl:=Option.some.inj h
   have hj' :=Nat.eq_of_beq_eq_true hj
   simp only[sem,Exit.inBlock]
   rw[if_pos hj'.symm]
   exact hs
  ·rename_i hj
   simp only[sem,Exit.inBlock]
   rw[if_neg (fun e=>hj (by rw[e];exact Nat.beq_refl j))]
   exact aw0 t t' a w h hs
 | .sc::t,t',a,w,h,hs=>aw0 t t' a w h hs
 | .code _::t,t',a,w,h,hs=>aw0 t t' a w h hs
 | .lp _ _::t,t',a,w,h,hs=>aw0 t t' a w h hs
 | .lpc _ _::t,t',a,w,h,hs=>aw0 t t' a w h hs
 | .ops _ _::t,t',a,w,h,hs=>aw0 t t' a w h hs
end
section
variable {E : E7} {C : Cx} {Q : D → i4 → Prop} {w w' : World} {Im Im' : Nat → Prop} {φ φ' : o8} {σ σ' : i4}
theorem aE0 {s:Sem Value}{k:D→i4→Qy} (hk:∀d σ1 σ2,k d σ1=k d σ2):∀(r:p9),af4 E.P w Im φ s r→i6 E C Q (conv E true false k σ r)→∃v d,s.run E.P w=.ok v w∧i7 w Im φ d v∧i6 E C Q (k d σ)
 | .ok d σ',⟨v,h1,h2⟩,h=>⟨v,d,h1,h2,by rw[hk d σ σ'];exact h⟩
 | .need b q,hs,h=>aE0 hk q (hs h.1) h.2
 | .split b q,hs,h=>aE0 hk (q b) hs h
 | .row r q,hs,h=>let ⟨x,hx,h'⟩:=h;aE0 hk (q x) (hs x hx) h'
 | .rows r q,hs,h=>aE0 hk (q r) hs h
 | .any p q,hs,h=>h.elim
 | .str r q,hs,h=>let ⟨x,hx,h'⟩:=h;aE0 hk (q x) (hs x hx) h'
 | .call f args,hs,h=>hs.elim
 | .bad,_,h=>h.elim
def cd6 (tmps:Array Value):ResultVar→Sem Value
 | .tmp t=>pure (tmps.getD t undef)
 | .cell c t=>do loadVar t (←asAddr (tmps.getD c undef))
theorem ct3 (fn:Func) (tmps:Array Value):results fn tmps=(do let vs ←fn.results.mapM (cd6 tmps);pure (if h:vs.size=1 then vs[0] else .tuple vs)):=by
 unfold results
 have:(fun(x:ResultVar)=>match x with | .tmp t=>(pure (tmps.getD t undef):Sem Value) | .cell a t=>do loadVar t (←asAddr (tmps.getD a undef)))=cd6 tmps:=by
  funext x;cases x<;>rfl
 rw[←this]
 rfl
theorem cc3 (hi:Inv w Im φ σ) {fr:Fr}{a:Act} (hfr:∀t,i7 w Im φ (o5 fr t) (a.tmps.getD t undef)):∀(rs:List ResultVar) (acc:List D) (k:List D→Qy),i6 E C Q (cb3 E rs acc fr σ k)→
  ∃(ds:List D) (vs:List Value),(rs.mapM (cd6 a.tmps)).run E.P w=.ok vs w∧E3 w Im φ ds vs∧i6 E C Q (k (acc++ds))
 | [],acc,k,h=>⟨[],[],by simp,⟨rfl,fun i d v a=>by simp at a⟩,by rw[List.append_nil];exact h⟩
 | .tmp t::rs,acc,k,h=>by
  obtain⟨ds,vs,h1,h2,h3⟩:=cc3 hi hfr rs (acc++ [o5 fr t]) k h
  refine⟨o5 fr t::ds,a.tmps.getD t undef::vs,by simp only[List.mapM_cons,Sem.run_bind,cd6,Sem.run_pure,Result.andThen_ok,h1],⟨by simp[h2.1],fun i d v e1 e2=> ?_⟩,by simpa using h3⟩
  cases i with
  | zero=>simp only[List.getElem?_cons_zero,Option.some.injEq] at e1 e2;subst e1;subst e2;exact hfr t
  | succ i=>exact h2.2 i d v (by simpa using e1) (by simpa using e2)
 | .cell c t::rs,acc,k,h=>by
  simp only[cb3] at h
  obtain⟨v,d,g1,g2,g3⟩:=aE0 (fun d σ1 σ2=>rfl) _ (bQ6 (P:=E.P) hi (hfr c) (t:=t)) h
  obtain⟨ds,vs,h1,h2,h3⟩:=cc3 hi hfr rs (acc++ [d]) k g3
  have hl:(cd6 a.tmps (.cell c t)).run E.P w=.ok v w:=by
   show((asAddr (a.tmps.getD c undef))>>=fun x=>loadVar t x).run E.P w=_
   unfold Instr.loadAt at g1
   simp only[Sem.run_bind] at g1 ⊢
   cases hc:a.tmps.getD c undef with
   | pointer p=>
    cases p with
    | none=>rw[hc] at g1;simp[Instr.sureAddr,stuck] at g1
    | some p=>rw[hc] at g1;exact g1
   | _=>rw[hc] at g1;simp[Instr.sureAddr,stuck] at g1
  refine⟨d::ds,v::vs,by simp only[List.mapM_cons,Sem.run_bind,hl,Result.andThen_ok,h1];rfl,⟨by simp[h2.1],fun i d' v' e1 e2=> ?_⟩,by simpa using h3⟩
  cases i with
  | zero=>simp only[List.getElem?_cons_zero,Option.some.injEq] at e1 e2;subst e1;subst e2;exact g2
  | succ i=>exact h2.2 i d' v' (by simpa using e1) (by simpa using e2)
theorem Inv.shut (hi:Inv w Im φ σ) {Ds:List Nat} (hD:∀b∈Ds,¬Im b∧¬m8 φ σ b) (hs:bc5 Ds w w'):Inv w' Im φ σ∧∀c,Im c→w'.heap[c]? =w.heap[c]? :=by
 have hIm:∀c,Im c→w'.heap[c]? =w.heap[c]? :=fun c hc=>hs.same c fun hm=>(hD c hm).1 hc
 exact⟨⟨hi.len,fun b B l h1 h2=>(hi.blk b B l h1 h2).of_heap (fun hp=>hs.same _ fun hm=>(hD _ hm).2 ⟨b,B,l,h2,h1,rfl,hp⟩) (Nat.le_of_eq hs.size.symm) (fun _ h=>h) hIm (l5.refl _),hi.inj,hi.sep,fun c hc=>by rw[hs.size];exact hi.im c hc⟩,hIm⟩
theorem bc5.refl (Ds:List Nat) (w:World):bc5 Ds w w:=⟨rfl,fun _ _=>rfl,Io.refl w⟩
theorem Tr.back {k:Nat} (h:Tr k w' Im φ σ w' Im' φ' σ') (hs:w'.heap.size=w.heap.size):Tr k w Im φ σ w Im' φ' σ' :=
 ⟨⟨Nat.le_refl _,fun _ _ _=>rfl,Io.refl _⟩,fun c hc=>by rw[←hs];exact h.own c hc,h.pre,h.im,fun c hc=>by rw[←hs];exact h.imN c hc⟩
theorem cu7 {fr:Fr}{a:Act} (hfr:∀t,i7 w Im φ (o5 fr t) (a.tmps.getD t undef)) (hi:Inv w Im φ σ) (hm:C.m≤φ.length) (hq:i6 E C Q (bk4 E C fr σ)):
  C.fin∧∃v d σ' φ' Im',(results C.fn a.tmps).run E.P w=.ok v w∧Tr C.m w Im φ σ w Im' φ' σ' ∧Inv w Im' φ' σ' ∧i7 w Im' φ' d v∧Q d σ' :=by
 obtain⟨ds,vs,h1,h2,h3⟩:=cc3 hi hfr _ _ _ hq
 simp only[List.nil_append] at h3
 have hrun:(results C.fn a.tmps).run E.P w=.ok (if hh:vs.length=1 then vs[0] else .tuple vs.toArray) w:=by
  rw[ct3,Array.mapM_eq_mapM_toList]
  simp only[Sem.run_bind,Sem.run_map,h1,Result.andThen_ok,Sem.run_pure]
  simp
 have htup:i7 w Im φ (cE1 ds) (if hh:vs.length=1 then vs[0] else .tuple vs.toArray):=by
  split
  ·rename_i hh
   have hd:ds.length=1:=by rw[h2.1,hh]
   match ds,vs,hd,hh,h2 with
   | [d],[v],_,_,h2=>exact h2.2 0 d v rfl rfl
  ·rename_i hh
   have hd:ds.length≠1:=by rw[h2.1];exact hh
   have:cE1 ds=.tup ds:=by
    match ds,hd with
    | [],_=>rfl
    | _::_::_,_=>rfl
   rw[this]
   exact .tup _ _ (by simpa using h2.1) (fun i d v e1 e2=>h2.2 i d v e1 (by simpa using e2))
 unfold cL4 at h3
 simp only[Bool.cond_eq_ite] at h3
 split at h3
 ·split at h3
  ·rename_i x s hc
   obtain⟨φ2,i1,i2,i3⟩:=aL7 hi hm hc (a:=fun _=>(if hh:vs.length=1 then vs[0] else .tuple vs.toArray)) (fun t=>by
    simp only[o5,Bool.cond_eq_ite];split;exact htup;exact .undef _)
   split at h3
   ·rename_i hx
    have hd' :=i3 0
    have hx' :=Nat.eq_of_beq_eq_true hx
    simp only[o5,hx',Nat.beq_refl,cond_true] at hd'
    exact⟨h3.1,_,x.2,s,φ2,Im,hrun,i2,i1,hd',h3.2⟩
   ·exact h3.elim
  ·exact h3.elim
 ·split at h3
  ·rename_i d' s e1' e2'
   obtain⟨hneed,h3⟩:=aE2 h3
   have e1:=cd0 (fun b hb=>hneed b (List.mem_append.2 (.inl hb))) e1'
   have e2:=cA5 (fun d d' =>cd0) (fun b hb=>hneed b (List.mem_append.2 (.inr hb))) e2'
   obtain⟨φ2,I2,i1,i2,i3⟩:=cR9 hi hm htup e1 e2
   exact⟨h3.1,_,d',s,φ2,I2,hrun,i2,i1,i3,h3.2⟩
  ·exact h3.elim
theorem cw6 {lo:Nat}{fr:Fr}{a:Act} (h:ao6 E C lo w Im φ fr σ a) (hrb:C.rb=false) (hq:i6 E C Q (bk4 E C fr σ)):∀e,e=.normal∨e=.ret→N5 E C lo Q w Im φ σ e a w:=by
 intro e he
 refine⟨fun hr=>(by rw[hrb] at hr;cases hr),fun _=>⟨he,?_⟩⟩
 obtain⟨Ds,hD⟩:=h.sd.mks
 refine⟨Ds,hD.eq,hD.none,hD.nodup,fun b hb=>⟨(hD.ok b hb).1,(hD.ok b hb).2.2.1⟩,fun w'' hs=> ?_⟩
 obtain⟨i1,i2⟩:=h.inv.shut (fun b hb=>(hD.ok b hb).2.2.2) hs
 obtain⟨k0,v,d,s,p,I,k1,k2,k3,k4,k5⟩:=cu7 (a:=a) (fun t=>(h.fr t).mono (fun _ h=>h) i2 (l5.refl _)) i1 h.m hq
 refine⟨v,d,s,p,I,k1,fun _=>k2.back hs.size,k3,k4,k5,fun hit=> ?_⟩
 obtain rfl:=hD.none hit
 have ht:Tr φ.length w Im φ σ w'' Im φ σ:=⟨⟨Nat.le_of_eq hs.size.symm,fun c hc _=>hs.same c (by simp),hs.io⟩,fun c hc=> .inl hc,fun _ _=>rfl,fun _ h=>h,fun _ h=> .inl h⟩
 have a1:=h.sd.an.tr h.m h.inv ht i1
 have a2:=a1.tr (Nat.le_refl _) i1 k2 k3
 obtain⟨⟨q1,q2,q3,q4⟩,n0,G,X,_,_,_,_,g5,g6⟩:=a2 hit
 refine⟨⟨q1,q2,q4⟩,X,?_,g5⟩
 rcases k0 hit with hf | hf
 ·exact .inl (hf▸g6)
 ·exact .inr (hf▸g6)
theorem cm5 {lo:Nat}{fr:Fr}{a:Act} (h:ao6 E C lo w Im φ fr σ a) (hrb:C.rb=true) {n:Nat} (hq:i6 E C Q (bL5 C n σ)) {e:Exit} (he:bm8 e=some n):N5 E C lo Q w Im φ σ e a w:=by
 refine⟨fun _=> ?_,fun hr=>(by rw[hrb] at hr;cases hr)⟩
 unfold bL5 at hq
 split at hq
 ·rename_i x hc
  obtain⟨φ2,i1,i2,_⟩:=aL7 h.inv h.m hc (a:=fun _=>undef) (fun t=> .undef _)
  exact⟨n,x.2,φ2,Im,he,i2,i1,hq.2⟩
 ·exact hq.elim
end
section
variable {E : E7} {C : Cx} {Q : D → i4 → Prop} {w w' : World} {Im Im' : Nat → Prop} {φ φ' : o8} {σ σ' : i4}
theorem bR4 (mask:Nat) (fr:Fr):∀(l:List Nat) (t:Nat),o5 (bg6 mask fr l) t=.undef∨o5 (bg6 mask fr l) t=o5 fr t
 | [],t=> .inl rfl
 | s::l,t=>by
  have ih:=bR4 mask fr l t
  simp only[bg6,Bool.cond_eq_ite]
  split
  ·split
   ·exact ih
   ·simp only[o5,Bool.cond_eq_ite]
    split
    ·rename_i he
     have he' :=Nat.eq_of_beq_eq_true he
     subst he'
     exact .inr rfl
    ·exact ih
  ·exact ih
theorem ci1 {fr:Fr}{n k:Nat}{a:Nat→Value} (h:∀t,i7 w Im φ (o5 fr t) (a t)) (t:Nat):i7 w Im φ (o5 (bc2 n k fr) t) (a t):=by
 unfold bc2
 rcases bR4 k fr (List.range n) t with h1 | h1
 ·rw[h1];exact .undef _
 ·rw[h1];exact h t
/-! ### what an operation comes to, whichever questions are asked -/
inductive O1 (E:E7) (ks:Bool) (σ:i4):p9→D→i4→Prop
 | ok (d:D) (s:i4):O1 E ks σ (.ok d s) d s
 | need {b:Bool}{k:p9}{d:D}{s:i4}:b=true→O1 E ks σ k d s→O1 E ks σ (.need b k) d s
 | split {b:Bool}{k:Bool→p9}{d:D}{s:i4}:O1 E ks σ (k b) d s→O1 E ks σ (.split b k) d s
 | row {r:Option (List D)}{k:List D→p9}{x:List D}{d:D}{s:i4}:r=some x→O1 E ks σ (k x) d s→O1 E ks σ (.row r k) d s
 | rows {r:List (List D)}{k:List (List D)→p9}{d:D}{s:i4}:O1 E ks σ (k r) d s→O1 E ks σ (.rows r k) d s
 | str {r:Option (List UInt8)}{k:List UInt8→p9}{x:List UInt8}{d:D}{s:i4}:r=some x→O1 E ks σ (k x) d s→O1 E ks σ (.str r k) d s
 | call {f:FuncId}{args args' :List D}{d:D}:L2 (tr aN0 l8) args=some args' →ba9 E f args' d→O1 E ks σ (.call f args) d σ
 | callB {f:FuncId}{args args' :List D}{d:D}:L2 (frz σ 0) args=some args' →ba9 E f args' d→ap5 4 d=true→O1 E ks σ (.call f args) d σ
 | callS {f:FuncId}{args:List D}{p:bZ7}{d0:D}{s0:i4}{x:D×i4}:ks=true→(E.pol f).ro=false→aO1 E f args σ=some p→(∀b∈p.ns,b=true)→(l4 E f p.args p.sub fun d' s' =>d' =d0∧s' =s0)→p.back d0 s0=some x→O1 E ks σ (.call f args) x.1 x.2
 | callR {f:FuncId}{args:List D}{p:bZ7}{d0:D}{s0:i4}{x:D×i4}:ks=true→aO1 E f args σ=some p→(∀b∈p.ns,b=true)→(l4 E f p.args p.sub fun d' s' =>d' =d0∧s' =s0)→p.back d0 s0=some x→x.2.take σ.length=σ→O1 E ks σ (.call f args) x.1 x.2
theorem ao8 {ks:Bool}{k:D→i4→Qy}:∀(r:p9),i6 E C Q (conv E true ks k σ r)→∃d s,O1 E ks σ r d s∧i6 E C Q (k d s)
 | .ok d s,h=>⟨d,s,.ok d s,h⟩
 | .need b q,h=>let ⟨d,s,h1,h2⟩:=ao8 q h.2;⟨d,s,.need h.1 h1,h2⟩
 | .split b q,h=>let ⟨d,s,h1,h2⟩:=ao8 (q b) h;⟨d,s,.split h1,h2⟩
 | .row r q,h=>let ⟨x,hx,h'⟩:=h;let ⟨d,s,h1,h2⟩:=ao8 (q x) h';⟨d,s,.row hx h1,h2⟩
 | .rows r q,h=>let ⟨d,s,h1,h2⟩:=ao8 (q r) h;⟨d,s,.rows h1,h2⟩
 | .any p q,h=>h.elim
 | .str r q,h=>let ⟨x,hx,h'⟩:=h;let ⟨d,s,h1,h2⟩:=ao8 (q x) h';⟨d,s,.str hx h1,h2⟩
 | .call f args,h=>by
  simp only[conv,cond_true] at h
  cases ks with
  | true=>
   simp only[cond_true] at h
   cases hro:(E.pol f).ro with
   | true=>
    rw[hro] at h
    simp only[cond_true,cu2] at h
    split at h
    ·rename_i p hp
     obtain⟨hneed,d0,s0,x,hs,hb,ht,hk⟩:=aE2 h
     exact⟨x.1,x.2,.callR rfl hp hneed hs hb ht,hk⟩
    ·exact h.elim
   | false=>
   rw[hro] at h
   simp only[cond_false,cA0] at h
   split at h
   ·rename_i p hp
    obtain⟨hneed,h⟩:=aE2 h
    obtain⟨d0,s0,hs,hk⟩:=h
    simp only at hk
    cases hb:p.back d0 s0 with
    | none=>rw[hb] at hk;exact hk.elim
    | some x=>rw[hb] at hk;exact⟨x.1,x.2,.callS rfl hro hp hneed hs hb,hk⟩
   ·exact h.elim
  | false=>
  simp only[cond_false,cB4] at h
  split at h
  ·rename_i args' hm
   obtain⟨d,hs,hk⟩:=h
   exact⟨d,σ,.call hm hs,hk⟩
  ·split at h
   ·rename_i args' hm0
    obtain⟨hneed,h⟩:=aE2 h
    have hm:=cl8 hneed hm0
    obtain⟨d,hs,hk⟩:=h
    cases hp:ap5 4 d with
    | true=>simp only[hp,cond_true] at hk;exact⟨d,σ,.callB hm hs hp,hk⟩
    | false=>simp only[hp,cond_false] at hk;exact hk.elim
   ·exact h.elim
 | .bad,h=>h.elim
theorem bp7 (hgl:GlOk E w Im) (hi:Inv w Im φ σ) {f:FuncId}{args args' :List D}{d:D}{vs:Array Value} (hargs:E3 w Im φ args vs.toList)
  (h:(L2 (tr aN0 l8) args=some args')∨(L2 (frz σ 0) args=some args' ∧ap5 4 d=true)) (hs:ba9 E f args' d):
  Calls E.P f vs w fun e w' =>∃v Im',e=.returned v∧Nx w Im φ σ w' Im' φ σ∧i7 w' Im' φ d v:=by
 rcases h with hm | ⟨hm,hp⟩
 ·refine(hs w Im [] vs hgl (Inv.nil hi.im) (av0 hm hargs (fun d d' v a b=>aH6 l8 d d' v a b))).mono ?_
  rintro e w' ⟨v,d',s,φ2,I2,rfl,ht,h2,hr,rfl,rfl⟩
  have ht' :Tr 0 w Im [] [] w' I2 φ2 []:=ht
  have hN:∀c,I2 c→Im c∨w.heap.size≤c:=fun c hc=>by
   rcases ht'.imN c hc with h | h | h
   ·exact .inl h
   ·exact absurd h (ap4 c)
   ·exact .inr h
  obtain⟨n1,n2⟩:=hi.past ht' h2 ht'.im hN
  have:φ2= []:=List.eq_nil_of_length_eq_zero (by rw[h2.len];rfl)
  subst this
  exact⟨v,I2,rfl,⟨l5.refl _,Nat.le_refl _,n2,n1⟩,hr.mono (fun _ h=>h) (fun _ _=>rfl) (l5.nil _)⟩
 ·have hIm:∀c,Im c→(Im c∨m8 φ σ c):=fun c h=> .inl h
  have hfr:∀d d' v,i7 w Im φ d v→frz σ 0 d=some d' →i7 w (fun c=>Im c∨m8 φ σ c) [] d' v:=fun d d' v a b=>by
   have hown:∀(b:Nat) (B:A5) (l:Q3),0≤b→sget σ b=some B→φ[b]? =some l→0<l.size→(fun c=>Im c∨m8 φ σ c) l.blk:=fun b B l _ a2 a3 hp=> .inr ⟨b,B,l,a3,a2,rfl,hp⟩
   exact aR0 hIm (fun b i o d' v a b' =>ad4 hi hIm hown 6 false _ (fun _ b l hb=>by omega) _ d' v (fun _ _ _ _=>trivial) a b') (fun b i len lo ex d' v a b' =>ad4 hi hIm hown 6 false _ (fun _ b l hb=>by omega) _ d' v (fun _ _ _ _=>trivial) a b') l8 d d' v a b
  refine(hs w (fun c=>Im c∨m8 φ σ c) [] vs (hgl.mono (fun _ h=> .inl h) (fun _ _=>rfl)) (Inv.nil (fun c hc=>hc.elim (hi.im c) hi.own_lt)) (av0 hm hargs hfr)).mono ?_
  rintro e w' ⟨v,d',s,φ2,I2,rfl,ht,h2,hr,rfl,rfl⟩
  have ht' :Tr 0 w (fun c=>Im c∨m8 φ σ c) [] [] w' I2 φ2 []:=ht
  have hsame:∀c,c<w.heap.size→w'.heap[c]? =w.heap[c]? :=fun c hc=>ht'.ext.same c hc (ap4 c)
  exact⟨v,Im,rfl,⟨l5.refl _,Nat.le_refl _,⟨⟨ht'.ext.size,fun c hc _=>hsame c hc,ht'.ext.io⟩,fun c hc=> .inl hc,fun _ _=>rfl,fun _ h=>h,fun _ h=> .inl h⟩,
   ⟨hi.len,fun b B l a1 a2=>(hi.blk b B l a1 a2).of_heap (fun hp=>hsame _ ((hi.blk b B l a1 a2).lt hp)) ht'.ext.size (fun _ h=>h) (fun c hc=>hsame c (hi.im c hc)) (l5.refl _),hi.inj,hi.sep,fun c hc=>Nat.lt_of_lt_of_le (hi.im c hc) ht'.ext.size⟩⟩,bm2 4 d' v hp hr⟩
theorem cM6 (hi:Inv w Im φ σ) {o:Oper}{a:Act}{next:Act→World→Prop}{R:Exit→Act→World→Prop}{ρ:Operand→D} (hρ:∀x,i7 w Im φ (ρ x) (a.eval x)) {d:D} (hd:bA3 E.P ρ o=some d)
  (hk:∀v w' Im',Nx w Im φ σ w' Im' φ σ→i7 w' Im' φ d v→next (a.put o.dst v) w'):o.wp E.P a w next R:=by
 have hs:=aZ2 (P:=E.P) (σ:= []) (φ:= []) (Inv.nil hi.im) (ρ:=fun x=>bC8 (ch1 E.P o) (ρ x)) (ρc:=a.eval) (fun x=>by
  unfold bC8
  split
  ·rename_i cs h
   obtain⟨vs,e,g1,g2⟩:=(aH6 l8 _ _ _ (hρ x) h).agg_inv
   rw[e]
   have g3:=cd2 (ch1 E.P o) ⟨g1,g2⟩
   exact .agg _ _ g3.1 g3.2
  ·rename_i d' _ h;exact aH6 l8 _ _ _ (hρ x) h
  ·exact .undef _) o
 unfold bA3 at hd
 split at hd
 ·rename_i l lo ex B hA
  rw[hA] at hs
  obtain⟨v,w',φ',h1,h2⟩:=hs
  cases hdp:B.deep with
  | true=>rw[hdp] at hd;cases hd
  | false=>
   rw[hdp] at hd
   simp only[cond_false] at hd
   cases hle:Nat.ble (0+l) B.rows.length with
   | false=>rw[hle] at hd;cases hd
   | true=>
    rw[hle] at hd
    simp only[cond_true,Option.some.injEq] at hd
    subst hd
    have hgv:=h2.inv.give (fun _=>true)
    have ht:Tr 0 w Im [] [] w' (fun c=>Im c∨m8 φ' (u9 (fun _=>true) 0 [some B]) c) φ' (u9 (fun i=> !((fun _=>true) i)) 0 [some B]):=Tr.trans h2.tr (hgv.2.le (Nat.zero_le _))
    have hown:∀c,m8 φ' [some B] c→w.heap.size≤c:=fun c hc=>(h2.tr.own c hc).resolve_left (ap4 c)
    obtain⟨n1,n2⟩:=hi.past (J:=Im) ⟨ht.ext,ht.own,ht.pre,ht.im,ht.imN⟩ hgv.1 (fun _ h=> .inl h) (fun c hc=>hc.imp id (hown c))
    have hr:i7 w' (fun c=>Im c∨m8 φ' (u9 (fun _=>true) 0 [some B]) c) [] (.sl false B.sz ((B.rows.drop 0).take l)) v:=
     ad4 h2.inv (m:=0) (fun _ h=> .inl h) (fun b B' l _ a2 a3 hp=> .inr ⟨b,B',l,a3,a2,rfl,hp⟩) 6 false [] (fun _ b l hb=>by omega) _ _ _ (fun _ _ _ _=>trivial) h2.rel (by
      have hg:sget [some B] 0=some B:=rfl
      simp only[W3,Nat.blt,Nat.ble,cond_false,hg,hdp,hle,cond_true])
    have:=hk v w' _ ⟨l5.refl _,Nat.le_refl _,n2,n1⟩ (hr.mono (fun _ h=>h) (fun _ _=>rfl) (l5.nil _))
    unfold Oper.wp
    rcases h1 with h1 | ⟨h1,rfl⟩
    ·rw[h1];exact this
    ·rw[h1];exact this
 ·cases hd
theorem cc6 {ks:Bool} (hgl:GlOk E w Im) (hi:Inv w Im φ σ) {o:Oper}{a:Act}{next:Act→World→Prop}{R:Exit→Act→World→Prop}{r:p9}{d:D}{s:i4} (hl:O1 E ks σ r d s)
  (hs:aq2 E.P w Im φ σ (execOp a.eval o) r) (hk:∀v w' Im' φ',Nx w Im φ σ w' Im' φ' s→i7 w' Im' φ' d v→next (a.put o.dst v) w'):o.wp E.P a w next R:=by
 induction hl with
 | ok d s=>
  obtain⟨v,w',φ',h1,h2⟩:=hs
  have:=hk v w' Im φ' (h2.nx h2.le.length) h2.rel
  unfold Oper.wp
  rcases h1 with h1 | ⟨h1,rfl⟩
  ·rw[h1];exact this
  ·rw[h1];exact this
 | need hb _ ih=>exact ih (hs hb) hk
 | split _ ih=>exact ih hs hk
 | row hx _ ih=>exact ih (hs _ hx) hk
 | rows _ ih=>exact ih hs hk
 | str hx _ ih=>exact ih (hs _ hx) hk
 | call hm hsd=>
  obtain⟨vs,h1,h2,h3⟩:=hs
  unfold Oper.wp
  rw[h1]
  refine(bp7 hgl hi (vs:=vs) ⟨by simpa using h2,fun i d v a b=>h3 i d v a (by simpa using b)⟩ (.inl hm) hsd).mono ?_
  rintro e w' ⟨v,Im',rfl,n,hr⟩
  exact hk v w' Im' φ n hr
 | callB hm hsd hp=>
  obtain⟨vs,h1,h2,h3⟩:=hs
  unfold Oper.wp
  rw[h1]
  refine(bp7 hgl hi (vs:=vs) ⟨by simpa using h2,fun i d v a b=>h3 i d v a (by simpa using b)⟩ (.inr ⟨hm,hp⟩) hsd).mono ?_
  rintro e w' ⟨v,Im',rfl,n,hr⟩
  exact hk v w' Im' φ n hr
 | callR _ hp hneed hsd hb _=>
  obtain⟨vs,h1,h2,h3⟩:=hs
  unfold Oper.wp
  rw[h1]
  refine(bB9 hgl hi (vs:=vs) ⟨by simpa using h2,fun i d v a b=>h3 i d v a (by simpa using b)⟩ hp hneed hsd).mono ?_
  rintro e w' ⟨v,d,s,rfl,⟨rfl,rfl⟩,hx⟩
  obtain⟨φ',Im',n,hr⟩:=hx _ hb
  exact hk v w' Im' φ' n hr
 | callS _ _ hp hneed hsd hb=>
  obtain⟨vs,h1,h2,h3⟩:=hs
  unfold Oper.wp
  rw[h1]
  refine(bB9 hgl hi (vs:=vs) ⟨by simpa using h2,fun i d v a b=>h3 i d v a (by simpa using b)⟩ hp hneed hsd).mono ?_
  rintro e w' ⟨v,d,s,rfl,⟨rfl,rfl⟩,hx⟩
  obtain⟨φ',Im',n,hr⟩:=hx _ hb
  exact hk v w' Im' φ' n hr
/-! ### other blocks, the same answer -/
def V0 (σ σ' :i4):Prop:=∀(b:Nat) (B:A5),sget σ b=some B→sget σ' b=some B
theorem V0.refl (σ:i4):V0 σ σ:=fun _ _ h=>h
theorem V0.trans {a b c:i4} (h:V0 a b) (h' :V0 b c):V0 a c:=fun _ _ x=>h' _ _ (h _ _ x)
theorem V0.append (σ:i4) (B:Option A5):V0 σ (σ++ [B]):=fun b B' h=>by rw[z7 (I7 h)];exact h
theorem ap8 {f g:D→Option D} (h:∀d d',f d=some d' →g d=some d'):∀{l l' :List D},L2 f l=some l' →L2 g l=some l'
 | [],l',e=>e
 | d::r,l',e=>by
  simp only[L2] at e ⊢
  split at e
  ·rename_i x y h1 h2
   rw[h _ _ h1,ap8 h h2];exact e
  ·cases e
theorem bm7 {f g:D→Option D} (h:∀d d',f d=some d' →g d=some d'):∀{l l' :List (List D)},an1 f l=some l' →an1 g l=some l'
 | [],l',e=>e
 | d::r,l',e=>by
  simp only[an1] at e ⊢
  split at e
  ·rename_i x y h1 h2
   rw[ap8 h h1,bm7 h h2];exact e
  ·cases e
theorem bL1 {f g:D→Option D} (h:∀d d',f d=some d' →g d=some d'):∀(n:Nat) (d d' :D),tr f n d=some d' →tr g n d=some d'
 | 0,_,_,e=>by simp[tr] at e
 | n+1,d,d',e=>by
  have ih:=bL1 h n
  cases d<;>simp only[tr] at e ⊢<;>try exact e
  case ptr=>exact h _ _ e
  case msl=>exact h _ _ e
  case fn=>
   split at e
   ·rename_i x y h1 h2
    rw[ap8 ih h1,ap8 ih h2];exact e
   ·cases e
  case agg=>
   simp only[Option.map_eq_some_iff] at e ⊢
   obtain⟨x,h1,rfl⟩:=e
   exact⟨x,ap8 ih h1,rfl⟩
  case tup=>
   simp only[Option.map_eq_some_iff] at e ⊢
   obtain⟨x,h1,rfl⟩:=e
   exact⟨x,ap8 ih h1,rfl⟩
  case iface=>
   simp only[Option.map_eq_some_iff] at e ⊢
   obtain⟨x,h1,rfl⟩:=e
   exact⟨x,ih _ _ h1,rfl⟩
theorem bU0 (hle:V0 σ σ') (m:Nat):∀(n:Nat) (st:Bool) (d d' :D),W3 σ m st n d=some d' →W3 σ' m st n d=some d'
 | 0,_,_,_,e=>by simp[W3] at e
 | n+1,st,d,d',e=>by
  have ih:=bL1 (bU0 hle m n true) l8
  cases d<;>simp only[W3,Bool.cond_eq_ite] at e ⊢<;>try (cases e;done)
  ·split at e
   ·rename_i h1;rw[if_pos h1];exact e
   ·rename_i h1
    rw[if_neg h1]
    split at e
    ·rename_i B hB
     rw[hle _ _ hB]
     simp only
     split at e
     ·rename_i h2
      rw[if_pos h2]
      split at e
      ·rename_i rows hrows
       rw[bm7 ih hrows];exact e
      ·cases e
     ·rename_i h2;rw[if_neg h2];exact e
    ·cases e
  ·split at e
   ·rename_i h1;rw[if_pos h1];exact e
   ·rename_i h1
    rw[if_neg h1]
    split at e
    ·rename_i B hB
     rw[hle _ _ hB]
     simp only
     split at e
     ·rename_i h3
      rw[if_pos h3]
      split at e
      ·rename_i h2
       rw[if_pos h2]
       split at e
       ·rename_i rows hrows
        rw[bm7 ih hrows];exact e
       ·cases e
      ·rename_i h2;rw[if_neg h2];exact e
     ·cases e
    ·cases e
theorem cI3 (hle:V0 σ σ') (m:Nat) (d d' :D) (h:frz σ m d=some d'):frz σ' m d=some d' :=bL1 (bU0 hle m 6 false) l8 d d' h
/-- The same answer over other blocks. -/
inductive z3 (σ σ' : i4) : p9 → p9 → Prop
  | ok (d : D) : z3 σ σ' (.ok d σ) (.ok d σ')
  | need (b : Bool) {k k' : p9} : z3 σ σ' k k' → z3 σ σ' (.need b k) (.need b k')
  | split (b : Bool) {k k' : Bool → p9} : (∀ x, z3 σ σ' (k x) (k' x)) → z3 σ σ' (.split b k) (.split b k')
  | row (r : Option (List D)) {k k' : List D → p9} : (∀ x, z3 σ σ' (k x) (k' x)) → z3 σ σ' (.row r k) (.row r k')
  | rows (r : List (List D)) {k k' : List (List D) → p9} : (∀ x, z3 σ σ' (k x) (k' x)) → z3 σ σ' (.rows r k) (.rows r k')
  | str (r : Option (List UInt8)) {k k' : List UInt8 → p9} : (∀ x, z3 σ σ' (k x) (k' x)) → z3 σ σ' (.str r k) (.str r k')
  | call (f : FuncId) (args : List D) : V0 σ σ' → z3 σ σ' (.call f args) (.call f args)
  | any (p : Bool) {k k' : Bool → p9} : z3 σ σ' (.any p k) (.any p k')
  | yld (l : Nat) (args : List D) (r : p9) : z3 σ σ' (.yld l args) r
  | bad (r : p9) : z3 σ σ' .bad r
theorem z3.leaf {r r' :p9} (h:z3 σ σ' r r') {d:D}{s:i4} (hl:O1 E false σ r d s):O1 E false σ' r' d σ' :=by
 induction h with
 | ok d=>cases hl;exact .ok _ _
 | yld=>cases hl
 | need b _ ih=>cases hl with | need hb hl=>exact .need hb (ih hl)
 | split b _ ih=>cases hl with | split hl=>exact .split (ih _ hl)
 | row r _ ih=>cases hl with | row hx hl=>exact .row hx (ih _ hl)
 | rows r _ ih=>cases hl with | rows hl=>exact .rows (ih _ hl)
 | str r _ ih=>cases hl with | str hx hl=>exact .str hx (ih _ hl)
 | call f args hle=>
  cases hl with
  | call hm hs=>exact .call hm hs
  | callB hm hs hp=>exact .callB (ap8 (cI3 hle 0) hm) hs hp
  | callS h=>cases h
  | callR h=>cases h
 | any p=>cases hl
 | bad r=>cases hl
theorem z3.opt (o:Option D):z3 σ σ' (p9.opt o σ) (p9.opt o σ'):=by
 cases o
 ·exact .bad _
 ·exact .ok _
end
section
variable {P : Program} {σ σ' : i4}
theorem ct7 (op:BinOp) (k k' :IntKind) (x y:Int):z3 σ σ' (bb6 op k k' x y σ) (bb6 op k k' x y σ'):=by
 unfold bb6
 split
 ·exact .need _ (.ok _)
 ·exact .need _ (.ok _)
 ·split
  ·exact .need _ (.ok _)
  ·exact .bad _
 ·split
  ·exact .need _ (.ok _)
  ·exact .bad _
 ·split
  ·exact .opt _
  ·exact .bad _
theorem cM8 (op:BinOp) (t:TypeId) (x y:D):z3 σ σ' (bN5 P op t x y σ) (bN5 P op t x y σ'):=by
 unfold bN5
 split
 ·exact ct7 _ _ _ _ _
 ·split
  ·exact .ok _
  ·exact .ok _
  ·exact .ok _
  ·exact .need _ (.ok _)
  ·exact .bad _
 ·have h:∀f:Bool→D,z3 σ σ' (eqQ P t x y fun b=> .ok (f b) σ) (eqQ P t x y fun b=> .ok (f b) σ'):=fun f=>by
   unfold eqQ
   split
   ·exact .any _
   ·split
    ·exact .ok _
    ·exact .bad _
  split
  ·exact h _
  ·exact h _
  ·exact .bad _
theorem aG9 (rows:List (List D)) (sz i o n:Nat) (ag:Bool):z3 σ σ' (as3 rows sz i o n ag σ) (as3 rows sz i o n ag σ'):=by
 unfold as3
 split
 ·refine .row _ fun x=> ?_
  by_cases h1:ag=true
  ·rw[if_pos h1,if_pos h1]
   by_cases h2:x.length=sz
   ·rw[if_pos h2,if_pos h2];exact .ok _
   ·rw[if_neg h2];exact .bad _
  ·rw[if_neg h1,if_neg h1]
   by_cases h2:n=1
   ·rw[if_pos h2,if_pos h2];exact .opt _
   ·rw[if_neg h2];exact .bad _
 ·split
  ·exact .need _ (.rows _ fun _=> .ok _)
  ·exact .bad _
theorem cE8 (hle:V0 σ σ') (t:TypeId) (p:D):z3 σ σ' (aq9 P t p σ) (aq9 P t p σ'):=by
 unfold aq9
 split
 ·exact .bad _
 ·split
  ·split
   ·rename_i B hB;rw[hle _ _ hB];exact aG9 _ _ _ _ _ _
   ·exact .bad _
  ·exact aG9 _ _ _ _ _ _
  ·exact .bad _
theorem bU9 (hle:V0 σ σ') (t:TypeId) (x:D) (i:Int):z3 σ σ' (V6 P t x i σ) (V6 P t x i σ'):=by
 unfold V6
 split
 ·split
  ·exact .bad _
  ·split
   ·split
    ·exact .need _ (.ok _)
    ·exact .bad _
   ·exact .bad _
   ·split
    ·rename_i B hB
     rw[hle _ _ hB]
     simp only
     split
     ·exact .need _ (.ok _)
     ·exact .bad _
    ·exact .bad _
   ·exact .bad _
 ·split
  ·split
   ·rename_i B hB
    rw[hle _ _ hB]
    simp only
    split
    ·exact .need _ (.ok _)
    ·exact .bad _
   ·exact .bad _
  ·split
   ·exact .need _ (.ok _)
   ·exact .bad _
  ·exact .bad _
 ·exact .bad _
theorem bR6 (t:TypeId) (cs:List D) (off:Nat):z3 σ σ' (bs6 P t cs off σ) (bs6 P t cs off σ'):=by
 unfold bs6
 split
 ·split
  ·exact .ok _
  ·exact .row _ fun _=> .opt _
 ·exact .bad _
theorem cy0 (t:TypeId) (x:D) (i:Int):z3 σ σ' (am9 P t x i σ) (am9 P t x i σ'):=by
 unfold am9
 split
 ·split
  ·exact .need _ (bR6 _ _ _)
  ·exact .bad _
 ·split
  ·exact .need _ (bR6 _ _ _)
  ·exact .bad _
 ·exact .need _ (.row _ fun _=> .opt _)
 ·exact .bad _
theorem ay8 {n c:Nat}{lo hi mx:Option Int}{k k' :(l h:Nat)→(m:Option Nat)→p9} (h:∀l h m,z3 σ σ' (k l h m) (k' l h m)):z3 σ σ' (au1 n c lo hi mx k) (au1 n c lo hi mx k'):=by
 unfold au1
 split
 ·exact h _ _ _
 ·exact .need _ (h _ _ _)
 ·exact .need _ (h _ _ _)
 ·exact .need _ (.need _ (h _ _ _))
 ·exact .need _ (.need _ (h _ _ _))
 ·exact .need _ (.need _ (.need _ (h _ _ _)))
 ·exact .bad _
theorem cC0 (hle:V0 σ σ') (t:TypeId) (x:D) (lo hi mx:Option Int):z3 σ σ' (aY8 P t x lo hi mx σ) (aY8 P t x lo hi mx σ'):=by
 unfold aY8
 split
 ·split
  ·exact ay8 fun _ _ _=> .ok _
  ·exact .bad _
 ·split
  ·exact ay8 fun _ _ _=> .ok _
  ·exact .bad _
 ·split
  ·split
   ·exact ay8 fun _ _ _=> .rows _ fun _=> .ok _
   ·exact .bad _
  ·exact .bad _
 ·split
  ·rename_i n B hn hB
   rw[hn,hle _ _ hB]
   simp only
   split
   ·exact ay8 fun _ _ _=> .ok _
   ·exact .bad _
  ·exact .bad _
 ·split
  ·rename_i n B hn hB
   rw[hn,hle _ _ hB]
   simp only
   split
   ·exact ay8 fun _ _ _=> .ok _
   ·exact .bad _
  ·exact .bad _
 ·exact .bad _
theorem cs9 (hle:V0 σ σ') {x:D}{y:Nat×Bool×Option Nat×List (List D)} (h:aM4 σ x=some y):aM4 σ' x=some y:=by
 cases x<;>simp only[aM4] at h ⊢<;>try exact h
 split at h
 ·rename_i B hB;rw[hle _ _ hB];exact h
 ·cases h
theorem cw0 {n:Option Nat}{k:Nat}{r r' :p9} (h:z3 σ σ' r r'):z3 σ σ' (aU0 n k r) (aU0 n k r'):=by
 cases n
 ·exact h
 ·exact .need _ h
theorem cF7 (hle:V0 σ σ') {s d:TypeId} (hd:∀e,P.underlying d≠some (.slice e)) (x:D):z3 σ σ' (aV0 P s d x σ) (aV0 P s d x σ'):=by
 unfold aV0
 split
 ·exact .ok _
 ·exact .ok _
 ·rename_i e l h3 h4;exact absurd (by assumption) (hd _)
 ·exact absurd (by assumption) (hd _)
 ·split
  ·rename_i sz dq n rows h1 h2 h3
   rw[h1,h2,cs9 hle h3]
   simp only
   split
   ·exact cw0 (.str _ fun _=> .ok _)
   ·exact .bad _
  ·exact .bad _
 ·exact .bad _
theorem cl9 (ρ:Operand→D) (o:Oper) (h1:E6 P o.op≤1) (h2:E6 P o.op=0∨V0 σ σ'):z3 σ σ' (R8 P ρ o σ) (R8 P ρ o σ'):=by
 unfold R8
 cases hop:o.op<;>simp only[hop] at h1 h2 ⊢<;>try (exfalso;simp[E6,K5] at h1;done)
 case move=>exact .ok _
 case assign=>exact .ok _
 case pick c a b=>cases ρ c<;>first | exact .bad _ | exact .split _ fun _=> .ok _
 case build=>exact .opt _
 case load=>exact cE8 (h2.resolve_left (by simp[E6,K5])) _ _
 case nilCheck x=>cases ρ x<;>first | exact .bad _ | exact .ok _
 case binOp=>exact cM8 _ _ _ _
 case unOp=>exact .opt _
 case convert s d x=>
  have hd:∀e,P.underlying d≠some (.slice e):=fun e he=>by simp[E6,K5,he] at h1
  by_cases hk:∃k,P.underlying d=some (.int k)
  ·obtain⟨k,hk⟩:=hk
   unfold aV0
   rw[hk]
   split<;>first | exact .ok _ | exact .bad _ | (exfalso;simp_all;done)
  ·have hle:V0 σ σ' :=h2.resolve_left (by
    intro h0
    simp only[E6,K5] at h0
    split at h0
    ·simp at h0
    ·rename_i he;exact hk ⟨_,he⟩
    ·simp at h0)
   exact cF7 hle hd _
 case makeFunc fn first caps=>cases fn<;>first | exact .bad _ | exact .ok _
 case slice t x lo hi mx=>
  have hle:=h2.resolve_left (by simp[E6,K5])
  split
  ·exact cC0 hle _ _ _ _ _
  ·exact .bad _
 case fieldAddr=>exact .opt _
 case field=>exact .opt _
 case indexAddr t x i=>
  have hle:=h2.resolve_left (by simp[E6,K5])
  cases ρ i<;>first | exact .bad _ | exact bU9 hle _ _ _
 case index t x i=>cases ρ i<;>first | exact .bad _ | exact cy0 _ _ _
 case extract x i=>cases ρ x<;>first | exact .bad _ | exact .opt _
 case makeInterface t x=>
  split
  ·exact .bad _
  ·cases ρ x<;>first | exact .bad _ | exact .ok _
  ·exact .bad _
 case call c=>
  unfold callD
  cases hc:c.callee with
  | value f=>
   have hle:=h2.resolve_left (by simp[E6,K5,hc])
   simp only
   cases ρ f<;>first | exact .bad _ | exact .yld _ _ _ | skip
   simp only
   split
   ·exact .call _ _ hle
   ·exact .bad _
  | builtin b=>
   simp only
   unfold ao0
   cases b<;>try (exfalso;simp[E6,K5,hc] at h1;done)
   all_goals first
    | exact .opt _
    | (split<;>first
      | exact .bad _
      | (unfold bY6;split<;>first | exact .ok _ | exact .bad _)
      | (unfold bZ5;split<;>first | exact .ok _ | exact .bad _)
      | (simp_all;done))
  | invoke r m=>exfalso;simp[E6,K5,hc] at h1
theorem bT2 {ρ ρ' :Operand→D} (o:Oper) (h:∀x∈o.op.operands,ρ x=ρ' x):R8 P ρ o σ=R8 P ρ' o σ:=by
 unfold R8
 cases hop:o.op<;>rw[hop] at h<;>simp only[Op.operands] at h<;>(try simp only)
 case build t ps=>rw[show(ps.toList.map fun p=>(p.1,ρ p.2))=(ps.toList.map fun p=>(p.1,ρ' p.2)) from List.map_congr_left fun p hp=>by rw[h p.2 (by simp;exact⟨p.1,by simpa using hp⟩)]]
 case buildSlice t n ps=>rw[show(ps.toList.map fun p=>(p.1,ρ p.2))=(ps.toList.map fun p=>(p.1,ρ' p.2)) from List.map_congr_left fun p hp=>by rw[h p.2 (by simp;exact⟨p.1,by simpa using hp⟩)]]
 case makeFunc fn first caps=>
  cases fn<;>try rfl
  simp only
  rw[show first.toList.map ρ=first.toList.map ρ' from List.map_congr_left fun x hx=>h x (by simp at hx;simp[hx]),show caps.toList.map ρ=caps.toList.map ρ' from List.map_congr_left fun x hx=>h x (by simp at hx;simp[hx])]
 case call c=>
  unfold callD
  have hargs:c.args.toList.map ρ=c.args.toList.map ρ' :=List.map_congr_left fun x hx=>h x (by simp at hx;simp[Call.operands,hx])
  rw[hargs]
  cases hc:c.callee with
  | value f=>simp only;rw[h f (by simp[Call.operands,hc])]
  | builtin b=>rfl
  | invoke r m=>rfl
 case slice t x lo hi mx=>cases lo<;>cases hi<;>cases mx<;>simp_all
 all_goals (first | rfl | (simp_all;done))
theorem cQ3 {E:E7}{ρ:Operand→D}{o:Oper} (h1:E6 P o.op=2) {d:D}{s:i4} (hl:O1 E false σ (R8 P ρ o σ) d s):V0 σ s:=by
 have halloc:∀t x,O1 E false σ (aI8 P t x σ) d s→V0 σ s:=fun t x hl=>by
  unfold aI8 at hl
  split at hl
  ·cases hl;exact V0.append _ _
  ·cases hl
 unfold R8 at hl
 cases hop:o.op<;>simp only[hop] at h1 hl<;>try (exfalso;simp[E6,K5] at h1;done)
 case alloc t=>
  split at hl
  ·exact halloc _ _ hl
  ·cases hl
 case box t x=>exact halloc _ _ hl
 case buildSlice t n ps=>
  unfold aG1 at hl
  split at hl
  ·split at hl
   ·split at hl
    ·split at hl
     ·cases hl;exact V0.append _ _
     ·cases hl
    ·cases hl
   ·cases hl
  ·cases hl
 case makeSlice t l c=>
  split at hl
  ·unfold aO5 at hl
   split at hl
   ·split at hl
    ·split at hl
     ·cases hl with
      | need _ hl=>
       cases hl with
       | rows hl=>
        cases hsm:cc8 l c<;>rw[hsm] at hl<;>(cases hl;exact V0.append _ _)
     ·cases hl
    ·cases hl
   ·cases hl
  ·cases hl
 case convert s' d' x=>
  simp only[E6,K5] at h1
  split at h1
  ·rename_i e he
   unfold aV0 at hl
   split at hl
   ·exfalso;simp_all
   ·exfalso;simp_all
   ·split at hl
    ·cases hl with | rows hl=>cases hl;exact V0.append _ _
    ·cases hl
   ·split at hl
    ·split at hl
     ·cases hl with | need _ hl=>cases hl;exact V0.refl _
     ·cases hl
    ·cases hl
   ·exfalso;simp_all
   ·cases hl
  ·cases h1
  ·cases h1
 case call c=>
  cases hc:c.callee with
  | builtin b=>cases b<;>(exfalso;simp[E6,K5,hc] at h1)
  | value f=>exfalso;simp[E6,K5,hc] at h1
  | invoke r m=>exfalso;simp[E6,K5,hc] at h1
theorem cw2 {t:TypeId}{p:D} (hle:∀b B,av5 p=some b→sget σ b=some B→sget σ' b=some B):z3 σ σ' (aq9 P t p σ) (aq9 P t p σ'):=by
 unfold aq9
 split
 ·exact .bad _
 ·split
  ·split
   ·rename_i B hB;rw[hle _ _ rfl hB];exact aG9 _ _ _ _ _ _
   ·exact .bad _
  ·exact aG9 _ _ _ _ _ _
  ·exact .bad _
theorem bO5 {t:TypeId}{x:D}{i:Int} (hle:∀b B,av5 x=some b→sget σ b=some B→sget σ' b=some B):z3 σ σ' (V6 P t x i σ) (V6 P t x i σ'):=by
 unfold V6
 split
 ·split
  ·exact .bad _
  ·split
   ·split
    ·exact .need _ (.ok _)
    ·exact .bad _
   ·exact .bad _
   ·split
    ·rename_i B hB
     rw[hle _ _ rfl hB]
     simp only
     split
     ·exact .need _ (.ok _)
     ·exact .bad _
    ·exact .bad _
   ·exact .bad _
 ·split
  ·split
   ·rename_i B hB
    rw[hle _ _ rfl hB]
    simp only
    split
    ·exact .need _ (.ok _)
    ·exact .bad _
   ·exact .bad _
  ·split
   ·exact .need _ (.ok _)
   ·exact .bad _
  ·exact .bad _
 ·exact .bad _
theorem ci0 (ρ:Operand→D) (o:Oper) (h1:E6 P o.op≤1) {a:Operand} (hs:ap0 o.op=some a) (hle:∀b B,av5 (ρ a)=some b→sget σ b=some B→sget σ' b=some B):z3 σ σ' (R8 P ρ o σ) (R8 P ρ o σ'):=by
 unfold R8
 cases hop:o.op<;>simp only[hop,ap0] at h1 hs ⊢<;>try (cases hs;done)
 case load=>obtain rfl:=Option.some.inj hs;exact cw2 hle
 case store=>exfalso;simp[E6,K5] at h1
 case indexAddr t x i=>
  obtain rfl:=Option.some.inj hs
  cases ρ i<;>first | exact .bad _ | exact bO5 hle
 case call c=>
  exfalso
  split at hs
  ·rename_i hc _
   simp[E6,K5,hc] at h1
  ·cases hs
theorem ar0 {b b' :Nat}{B:A5}{x:Option A5} (hne:b≠b') (h:sget σ b' =some B):sget (σ.set b x) b' =some B:=by
 rw[←h]
 unfold sget
 rw[List.getElem?_set_ne hne]
theorem cp6 {E:E7}{n:Option Nat}{k:Nat}{r:p9}{d:D}{s:i4} (h:O1 E false σ (aU0 n k r) d s):O1 E false σ r d s:=by
 unfold aU0 at h
 split at h
 ·exact h
 ·cases h with | need _ h=>exact h
theorem cS4 {E:E7}{ρ:Operand→D}{o:Oper} (h1:E6 P o.op=3) {a:Operand} (hs:ap0 o.op=some a) {d:D}{s:i4} (hl:O1 E false σ (R8 P ρ o σ) d s) {b:Nat}{B:A5} (hb:av5 (ρ a)≠some b) (h:sget σ b=some B):sget s b=some B:=by
 unfold R8 at hl
 cases hop:o.op<;>simp only[hop,ap0] at h1 hs hl<;>try (cases hs;done)
 case load=>exfalso;simp[E6,K5] at h1
 case indexAddr=>exfalso;simp[E6,K5] at h1
 case store t x v=>
  obtain rfl:=Option.some.inj hs
  unfold bG7 at hl
  split at hl
  ·rename_i n cs b' i o' _ _ hx
   have hne:b' ≠b:=fun e=>hb (by rw[hx,e];rfl)
   split at hl
   ·split at hl
    ·split at hl
     ·cases hl with | row _ hl=>cases hl with | rows hl=>cases hl;exact ar0 hne h
     ·split at hl
      ·cases hl with | need _ hl=>cases hl with | rows hl=>cases hl;exact ar0 hne h
      ·cases hl
    ·cases hl
   ·cases hl
  ·cases hl
 case call c=>
  split at hs
  ·rename_i s' x' hc ha
   obtain rfl:=Option.some.inj hs
   simp only[callD,hc,ha,List.map_cons,List.map_nil] at hl
   have main:∀t,O1 E false σ (aO8 P t (ρ s') (ρ x') σ) d s→sget s b=some B:=fun t hl=>by
    unfold aO8 at hl
    split at hl
    ·split at hl
     ·split at hl
      ·have hl:=cp6 hl
       split at hl
       ·cases hl with | need _ hl=>cases hl with | rows hl=>cases hl;rw[z7 (I7 h)];exact h
       ·rename_i b' i len lo ex hx
        have hne:b' ≠b:=fun e=>hb (by rw[hx,e];rfl)
        split at hl
        ·split at hl
         ·cases hl with
          | need _ hl=>cases hl with
           | need _ hl=>cases hl with
            | rows hl=>
             cases hl
             have:=ar0 (x:=none) hne h
             rw[z7 (I7 this)];exact this
         ·cases hl
        ·cases hl
       ·cases hl
      ·cases hl
     ·cases hl
    ·cases hl
   generalize c.argTypes.toList=ts at hl
   match ts,hl with
   | [],hl=>simp only[ao0] at hl;cases hl
   | [_],hl=>simp only[ao0] at hl;cases hl
   | [t,t'],hl=>
    simp only[ao0] at hl
    split at hl
    ·exact main t hl
    ·exact main t hl
    ·unfold bs2 at hl
     split at hl
     ·split at hl
      ·split at hl
       ·cases hl with | need _ hl=>cases hl with | rows hl=>cases hl;rw[z7 (I7 h)];exact h
       ·cases hl
      ·cases hl
     ·cases hl
    ·cases hl
   | _::_::_::_,hl=>simp only[ao0] at hl;cases hl
  ·cases hs
end
def V9 (dst:Nat→Option Nat) (dv:Nat→D) (fr:Fr) (S:Nat→Prop) (g:Fr):Prop:=
 ∀t,(∃j,S j∧dst j=some t∧(∀k,S k→dst k=some t→k≤j)∧o5 g t=dv j)∨((∀k,S k→dst k≠some t)∧o5 g t=o5 fr t)
def ad1 (kd:Nat→Nat) (sv:Nat→i4) (σ0:i4) (S:Nat→Prop) (σ:i4):Prop:=
 (∃j,S j∧2≤kd j∧(∀k,S k→2≤kd k→k≤j)∧σ=sv j)∨((∀k,S k→¬2≤kd k)∧σ=σ0)
section
variable {dst : Nat → Option Nat} {dv dv' : Nat → D} {fr : Fr} {S S' : Nat → Prop} {g g' : Fr} {kd : Nat → Nat} {sv sv' : Nat → i4} {σ0 σ σ' : i4}
theorem V9.same (h:V9 dst dv fr S g) (h' :V9 dst dv fr S' g') {t:Nat} (e:∀k,dst k=some t→(S k↔S' k)):o5 g t=o5 g' t:=by
 rcases h t with⟨j,h1,h2,h3,h4⟩ | ⟨h1,h2⟩<;>rcases h' t with⟨j',k1,k2,k3,k4⟩ | ⟨k1,k2⟩
 ·have a:=k3 j ((e j h2).1 h1) h2
  have b:=h3 j' ((e j' k2).2 k1) k2
  have:j=j' :=by omega
  rw[h4,k4,this]
 ·exact absurd h2 (k1 j ((e j h2).1 h1))
 ·exact absurd k2 (h1 j' ((e j' k2).2 k1))
 ·rw[h2,k2]
theorem V9.ext (h:V9 dst dv fr S g) (e:∀t,o5 g' t=o5 g t):V9 dst dv fr S g' :=fun t=>by
 rcases h t with⟨j,h1,h2,h3,h4⟩ | ⟨h1,h2⟩
 ·exact .inl ⟨j,h1,h2,h3,by rw[e,h4]⟩
 ·exact .inr ⟨h1,by rw[e,h2]⟩
theorem V9.congr (h:V9 dst dv fr S g) (e:∀j,S j→dv' j=dv j):V9 dst dv' fr S g:=fun t=>by
 rcases h t with⟨j,h1,h2,h3,h4⟩ | ⟨h1,h2⟩
 ·exact .inl ⟨j,h1,h2,h3,by rw[e j h1,h4]⟩
 ·exact .inr ⟨h1,h2⟩
theorem V9.iff (h:V9 dst dv fr S g) (e:∀j,S j↔S' j):V9 dst dv fr S' g:=by
 rw[show S' =S from funext fun j=>propext (e j).symm];exact h
theorem cf9 (g:Fr) (o:Option Nat) (d:D) (t:Nat):o5 (put g o d) t=if o=some t then d else o5 g t:=by
 cases o with
 | none=>simp[put]
 | some s=>
  simp only[put,ai4,o5,Bool.cond_eq_ite,Option.some.injEq]
  by_cases h:s=t
  ·subst h;rw[if_pos (Nat.beq_refl s),if_pos rfl]
  ·rw[if_neg (fun e=>h (Nat.eq_of_beq_eq_true e)),if_neg h]
theorem V9.put (h:V9 dst dv fr S g) {i:Nat}{d:D} (hd:dv i=d) (hlast:∀k t,S k→dst i=some t→dst k=some t→k≤i):V9 dst dv fr (fun k=>S k∨k=i) (put g (dst i) d):=fun t=>by
 rw[cf9]
 by_cases hi:dst i=some t
 ·rw[if_pos hi]
  exact .inl ⟨i,.inr rfl,hi,fun k hk hkt=>hk.elim (fun hk=>hlast k t hk hi hkt) (fun e=>by omega),hd.symm⟩
 ·rw[if_neg hi]
  rcases h t with⟨j,h1,h2,h3,h4⟩ | ⟨h1,h2⟩
  ·exact .inl ⟨j,.inl h1,h2,fun k hk hkt=>hk.elim (fun hk=>h3 k hk hkt) (fun e=>by subst e;exact absurd hkt hi),h4⟩
  ·exact .inr ⟨fun k hk=>hk.elim (h1 k) (fun e=>by subst e;exact hi),h2⟩
theorem ad1.same (h:ad1 kd sv σ0 S σ) (h' :ad1 kd sv σ0 S' σ') (e:∀k,2≤kd k→(S k↔S' k)):σ=σ' :=by
 rcases h with⟨j,h1,h2,h3,h4⟩ | ⟨h1,h2⟩<;>rcases h' with⟨j',k1,k2,k3,k4⟩ | ⟨k1,k2⟩
 ·have a:=k3 j ((e j h2).1 h1) h2
  have b:=h3 j' ((e j' k2).2 k1) k2
  have:j=j' :=by omega
  rw[h4,k4,this]
 ·exact absurd h2 (k1 j ((e j h2).1 h1))
 ·exact absurd k2 (h1 j' ((e j' k2).2 k1))
 ·rw[h2,k2]
theorem ad1.congr (h:ad1 kd sv σ0 S σ) (e:∀j,S j→sv' j=sv j):ad1 kd sv' σ0 S σ:=by
 rcases h with⟨j,h1,h2,h3,h4⟩ | ⟨h1,h2⟩
 ·exact .inl ⟨j,h1,h2,h3,by rw[e j h1,h4]⟩
 ·exact .inr ⟨h1,h2⟩
theorem ad1.iff (h:ad1 kd sv σ0 S σ) (e:∀j,2≤kd j→(S j↔S' j)):ad1 kd sv σ0 S' σ:=by
 rcases h with⟨j,h1,h2,h3,h4⟩ | ⟨h1,h2⟩
 ·exact .inl ⟨j,(e j h2).1 h1,h2,fun k hk hc=>h3 k ((e k hc).2 hk) hc,h4⟩
 ·exact .inr ⟨fun k hk hc=>h1 k ((e k hc).2 hk) hc,h2⟩
/-- The list of what turned the blocks. -/
inductive ab5 (kd : Nat → Nat) (sv : Nat → i4) : Nat → List (Nat × i4) → Prop
  | nil : ab5 kd sv 0 []
  | skip {i : Nat} {h : List (Nat × i4)} : ab5 kd sv i h → ¬ 2 ≤ kd i → ab5 kd sv (i + 1) h
  | cons {i : Nat} {h : List (Nat × i4)} : ab5 kd sv i h → 2 ≤ kd i → ab5 kd sv (i + 1) ((i, sv i) :: h)
theorem ab5.congr {i:Nat}{h:List (Nat×i4)} (hh:ab5 kd sv i h) (e:∀j,j<i→sv' j=sv j):ab5 kd sv' i h:=by
 induction hh with
 | nil=>exact .nil
 | skip _ hk ih=>exact .skip (ih fun j hj=>e j (by omega)) hk
 | @cons i h _ hk ih=>rw[←e i (by omega)];exact .cons (ih fun j hj=>e j (by omega)) hk
theorem aa8 {j i:Nat} (h:j<i+1):j<i∨j=i:=by omega
theorem ab5.get {i:Nat}{h:List (Nat×i4)} (hh:ab5 kd sv i h) (mask:Nat):ad1 kd sv σ0 (fun j=>j<i∧mask.testBit j=true) (ba8 mask σ0 h):=by
 induction hh with
 | nil=>exact .inr ⟨fun k hk=>absurd hk.1 (Nat.not_lt_zero _),rfl⟩
 | @skip i h _ hk ih=>
  refine ih.iff fun j hc=>⟨fun x=>⟨Nat.lt_succ_of_lt x.1,x.2⟩,fun x=>⟨?_,x.2⟩⟩
  rcases aa8 x.1 with h | h
  ·exact h
  ·subst h;exact absurd hc hk
 | @cons i h _ hk ih=>
  simp only[ba8]
  cases hb:mask.testBit i with
  | true=>exact .inl ⟨i,⟨Nat.lt_succ_self i,hb⟩,hk,fun k h1 _=>Nat.le_of_lt_succ h1.1,rfl⟩
  | false=>
   refine ih.iff fun j hc=>⟨fun x=>⟨Nat.lt_succ_of_lt x.1,x.2⟩,fun x=>⟨?_,x.2⟩⟩
   rcases aa8 x.1 with h | h
   ·exact h
   ·subst h;rw[hb] at x;cases x.2
theorem ab5.last {i:Nat}{h:List (Nat×i4)} (hh:ab5 kd sv i h):ad1 kd sv σ0 (fun j=>j<i) (cx8 σ0 h):=by
 induction hh with
 | nil=>exact .inr ⟨fun k hk=>absurd hk (Nat.not_lt_zero _),rfl⟩
 | @skip i h _ hk ih=>exact ih.iff fun j hc=>⟨fun x=>Nat.lt_succ_of_lt x,fun x=>(aa8 x).elim id fun e=>by subst e;exact absurd hc hk⟩
 | @cons i h _ hk ih=>exact .inl ⟨i,Nat.lt_succ_self i,hk,fun k h1 _=>Nat.le_of_lt_succ h1,rfl⟩
end
section
variable {E : E7} {C : Cx} {Q : D → i4 → Prop} {w w' : World} {Im Im' : Nat → Prop} {φ φ' : o8} {σ σ' : i4}
def bo4 (all:List Oper) (j:Nat):Option Nat:=match all[j]? with | some g=>g.dst | none=>none
/-- What an operation came to. -/
inductive OpF (E : E7) (all : List Oper) (o : Oper) (g : Fr) (τ : i4) : D → i4 → Prop
  | lit {d : D} : o.guard = none → au2 all o = true → bA3 E.P (C4 E.gl g) o = some d → OpF E all o g τ d τ
  | run {d : D} {s : i4} : au2 all o = false → bF3 E g τ o = true → (o.guard = none ∨ ∃ j want sl b, o.guard = some (j, want) ∧ bo4 all j = some sl ∧ o5 g sl = .bool b ∧ (b == want) = true) → O1 E (kOp E.kp o.op) τ (R8 E.P (C4 E.gl g) o τ) d s → OpF E all o g τ d s
  | off {j sl : Nat} {want b : Bool} : o.guard = some (j, want) → bo4 all j = some sl → o5 g sl = .bool b → (b == want) = false → OpF E all o g τ (.tup []) τ
  | gone {j sl : Nat} {want : Bool} {vs : List D} : o.guard = some (j, want) → bo4 all j = some sl → o5 g sl = .tup vs → OpF E all o g τ (.tup []) τ
theorem cD3 {g:Fr}{s:Nat}{d:D} (h:o5 g s=d) (t:Nat):o5 (ai4 g s d) t=o5 g t:=by
 have:=cf9 g (some s) d t
 simp only[put] at this
 rw[this]
 split
 ·rename_i e;cases e;exact h.symm
 ·rfl
theorem cv4 {g g' :Fr} (h:∀t,o5 g t=o5 g' t):C4 E.gl g=C4 E.gl g' :=funext fun x=>by
 cases x<;>simp only[C4]
 exact h _
theorem cA4 {n:Nat}{all:List Oper}{o:Oper}{g:Fr}{τ:i4}{k:Fr→i4→Qy} (hq:i6 E C Q (aX9 E true n all o g τ k)):
  aU4 n o.dst=true∧∃d s g',OpF E all o g τ d s∧(∀t,o5 g' t=o5 g t)∧i6 E C Q (k (put g' o.dst d) s):=by
 unfold aX9 at hq
 cases hd:aU4 n o.dst with
 | false=>simp only[hd,cond_false] at hq;exact hq.elim
 | true=>
  simp only[hd,cond_true] at hq
  refine⟨rfl,?_⟩
  cases hlit:au2 all o with
  | true=>
   simp only[hlit,Bool.and_self,cond_true] at hq
   split at hq
   ·rename_i d hd
    have hg:o.guard=none:=by
     have:=hlit
     simp only[au2,Bool.and_eq_true,Option.isNone_iff_eq_none] at this
     exact this.1
    exact⟨d,τ,g,.lit hg hlit hd,fun _=>rfl,hq⟩
   ·exact hq.elim
  | false=>
  simp only[hlit,Bool.and_false,cond_false] at hq
  cases hso:bF3 E g τ o with
  | false=>simp only[hso,Bool.not_false,Bool.and_self,cond_true] at hq;exact hq.elim
  | true=>
  simp only[hso,Bool.not_true,Bool.and_false,cond_false] at hq
  cases hg:o.guard with
  | none=>
   simp only[hg] at hq
   obtain⟨d,s,h1,h2⟩:=ao8 _ hq
   exact⟨d,s,g,.run hlit hso (.inl hg) h1,fun _=>rfl,h2⟩
  | some gw=>
   obtain⟨j,want⟩:=gw
   simp only[hg] at hq
   split at hq
   ·exact hq.elim
   ·rename_i sl hs
    split at hq
    ·rename_i b hb
     have hq' :i6 E C Q (bif b==want then conv E true (kOp E.kp o.op) (fun d st=>k (put (ai4 g sl (.bool b)) o.dst d) st) τ (R8 E.P (C4 E.gl (ai4 g sl (.bool b))) o τ) else k (put (ai4 g sl (.bool b)) o.dst (.tup [])) τ):=hq
     have he:=cD3 hb
     cases hbw:(b==want) with
     | true=>
      rw[hbw] at hq'
      obtain⟨d,s,h1,h2⟩:=ao8 _ hq'
      rw[cv4 he] at h1
      exact⟨d,s,_,.run hlit hso (.inr ⟨j,want,sl,b,hg,hs,hb,hbw⟩) h1,he,h2⟩
     | false=>
      rw[hbw] at hq'
      exact⟨_,τ,_,.off hg hs hb hbw,he,hq'⟩
    ·rename_i vs hb
     exact⟨_,τ,g,.gone hg hs hb,fun _=>rfl,hq⟩
    ·exact hq.elim
def U3 (tabs:List x9) (j:Nat):Option Nat:=match tabs[j]? with | some t=>t.dst | none=>none
def L8 (tabs:List x9) (j:Nat):Nat:=match tabs[j]? with | some t=>t.kind | none=>0
def tLk (tabs:List x9) (j:Nat):List Nat:=match tabs[j]? with | some t=>t.looks | none=> []
def Z2 (tabs:List x9) (j k:Nat):Bool:=match tabs[j]? with | some t=>t.before.testBit k | none=>false
def tSf (tabs:List x9) (j:Nat):Option Operand:=match tabs[j]? with | some t=>t.soft | none=>none
def aV8 (tabs:List x9) (j k:Nat):Prop:=∃tj tk,tabs[j]? =some tj∧tabs[k]? =some tk∧av3 tj tk=true
theorem bE6 {t:x9}{b:Option Nat}:∀{bl:List (Nat×x9×Option Nat)},bl3 t b bl=true→∀x∈bl,t.before.testBit x.1=true∨av3 t x.2.1=false∨dis t x.2.1 b x.2.2=true
 | [],_,x,hx=>by simp at hx
 | y::r,h,x,hx=>by
  simp only[bl3,Bool.and_eq_true,Bool.or_eq_true,Bool.not_eq_true'] at h
  rcases List.mem_cons.1 hx with rfl | hx
  ·rcases h.1 with(h | h) | h
   ·exact .inl h
   ·exact .inr (.inl h)
   ·exact .inr (.inr h)
  ·exact bE6 h.2 x hx
def cX1 (tabs:List x9) (bv:Nat→Option Nat) (i:Nat) (bl:List (Nat×x9×Option Nat)):Prop:=∀k t,k<i→tabs[k]? =some t→(k,t,bv k)∈bl
structure cd7 (E:E7) (n:Nat) (all:List Oper) (tabs:List x9) (fr:Fr) (σ0:i4) (dv:Nat→D) (sv:Nat→i4) (bv:Nat→Option Nat) (j:Nat) (o:Oper):Prop where
 dst:aU4 n o.dst=true
 fact:∃g τ,V9 (U3 tabs) dv fr (fun x=>x<j) g∧ad1 (L8 tabs) sv σ0 (fun x=>x<j∧Z2 tabs j x=true) τ∧OpF E all o g τ (dv j) (sv j)∧bv j=bf8 E.gl (tSf tabs j) g
 dis:∀k,k<j→Z2 tabs j k=false→∀tj tk,tabs[j]? =some tj→tabs[k]? =some tk→av3 tj tk=true→dis tj tk (bv j) (bv k)=true
theorem bn1 {n:Nat}{all:List Oper}{tabs:List x9} (hdst:∀(i:Nat) (o:Oper) (t:x9),all[i]? =some o→tabs[i]? =some t→t.dst=o.dst) {fr:Fr}{σ0:i4}{k:Fr→i4→Qy}:
  ∀(l:List Oper) (ts:List x9) (i:Nat) (g:Fr) (hist:List (Nat×i4)) (bl:List (Nat×x9×Option Nat)) (dv:Nat→D) (sv:Nat→i4) (bv:Nat→Option Nat),(∀x,x<l.length→l[x]? =all[i+x]?)→(∀x,x<ts.length→ts[x]? =tabs[i+x]?)→
  ab5 (L8 tabs) sv i hist→cX1 tabs bv i bl→V9 (U3 tabs) dv fr (fun x=>x<i) g→i6 E C Q (aD0 E n all σ0 k i l ts g hist bl)→
  ∃dv' sv' bv',(∀j,j<i→dv' j=dv j∧sv' j=sv j∧bv' j=bv j)∧(∀j o,i≤j→j<i+l.length→all[j]? =some o→cd7 E n all tabs fr σ0 dv' sv' bv' j o)∧
   ∃g' σ',V9 (U3 tabs) dv' fr (fun x=>x<i+l.length) g' ∧ad1 (L8 tabs) sv' σ0 (fun x=>x<i+l.length) σ' ∧i6 E C Q (k g' σ')
 | [],[],i,g,hist,bl,dv,sv,bv,hl,ht,hh,hbl,hf,hq=>by
  simp only[aD0] at hq
  refine⟨dv,sv,bv,fun _ _=>⟨rfl,rfl,rfl⟩,fun j o hj hj2 ho=> ?_,g,_,by simpa using hf,by simpa using hh.last,hq⟩
  simp at hj2;omega
 | [],t::ts,i,g,hist,bl,dv,sv,bv,hl,ht,hh,hbl,hf,hq=>by simp only[aD0] at hq;exact hq.elim
 | o::l,[],i,g,hist,bl,dv,sv,bv,hl,ht,hh,hbl,hf,hq=>by simp only[aD0] at hq;exact hq.elim
 | o::l,t::ts,i,g,hist,bl,dv,sv,bv,hl,ht,hh,hbl,hf,hq=>by
  simp only[aD0] at hq
  cases hso:bl3 t (bf8 E.gl t.soft g) bl with
  | false=>rw[hso] at hq;exact hq.elim
  | true=>
  rw[hso] at hq
  simp only[cond_true] at hq
  have ho:all[i]? =some o:=by have:=hl 0 (by simp);simpa using this.symm
  have hti:tabs[i]? =some t:=by have:=ht 0 (by simp);simpa using this.symm
  obtain⟨h1,d,s,g',h2,h3,h4⟩:=cA4 hq
  have hd:U3 tabs i=o.dst:=by simp only[U3,hti];exact hdst i o t ho hti
  have hk:L8 tabs i=t.kind:=by simp only[L8,hti]
  let dv1:Nat→D:=fun j=>if j=i then d else dv j
  let sv1:Nat→i4:=fun j=>if j=i then s else sv j
  let bv1:Nat→Option Nat:=fun j=>if j=i then bf8 E.gl t.soft g else bv j
  have e5:∀j,j<i→bv1 j=bv j:=fun j hj=>by simp only[bv1];rw[if_neg (by omega)]
  have e6:bv1 i=bf8 E.gl t.soft g:=by simp only[bv1];rw[if_pos trivial]
  have hbl1:cX1 tabs bv1 (i+1) ((i,t,bf8 E.gl t.soft g)::bl):=fun k t' hk htk=>by
   rcases aa8 hk with h | h
   ·rw[e5 k h];exact List.mem_cons_of_mem _ (hbl k t' h htk)
   ·subst h
    rw[hti] at htk
    obtain rfl:=Option.some.inj htk
    rw[e6];exact List.mem_cons_self
  have e1:∀j,j<i→dv1 j=dv j:=fun j hj=>by simp only[dv1];rw[if_neg (by omega)]
  have e2:∀j,j<i→sv1 j=sv j:=fun j hj=>by simp only[sv1];rw[if_neg (by omega)]
  have e3:dv1 i=d:=by simp only[dv1];rw[if_pos trivial]
  have e4:sv1 i=s:=by simp only[sv1];rw[if_pos trivial]
  have hf1:V9 (U3 tabs) dv1 fr (fun x=>x<i+1) (put g' o.dst d):=by
   have:=((hf.congr e1).ext h3).put (i:=i) e3 (fun k t hk _ _=>by omega)
   rw[hd] at this
   exact this.iff fun j=>by omega
  have hh1:ab5 (L8 tabs) sv1 (i+1) (bif Nat.ble 2 t.kind then (i,s)::hist else hist):=by
   cases hb:Nat.ble 2 t.kind with
   | true=>
    rw[←e4]
    exact .cons (hh.congr e2) (by rw[hk];exact Nat.le_of_ble_eq_true hb)
   | false=>
    refine .skip (hh.congr e2) (fun h=> ?_)
    rw[hk] at h
    rw[Nat.ble_eq_true_of_le h] at hb;cases hb
  obtain⟨dv',sv',bv',a1,a2,g2,s2,a3,a4,a5⟩:=bn1 hdst l ts (i+1) _ _ _ dv1 sv1 bv1 (fun x hx=>by have:=hl (x+1) (by simpa using hx);simpa[Nat.add_assoc,Nat.add_comm 1] using this) (fun x hx=>by have:=ht (x+1) (by simpa using hx);simpa[Nat.add_assoc,Nat.add_comm 1] using this) hh1 hbl1 hf1 h4
  refine⟨dv',sv',bv',fun j hj=>⟨by rw[(a1 j (by omega)).1,e1 j hj],by rw[(a1 j (by omega)).2.1,e2 j hj],by rw[(a1 j (by omega)).2.2,e5 j hj]⟩,fun j o' hj hj2 ho' => ?_,g2,s2,a3.iff fun j=>by simp;omega,a4.iff fun j _=>by simp;omega,a5⟩
  rcases Nat.lt_or_ge i j with hlt | hge
  ·exact a2 j o' hlt (by simp at hj2;omega) ho'
  ·have:j=i:=by omega
   subst this
   rw[ho] at ho'
   obtain rfl:=Option.some.inj ho'
   refine⟨h1,⟨g,ba8 t.before σ0 hist,hf.congr (fun x hx=>by rw[(a1 x (by omega)).1,e1 x hx]),?_,?_,?_⟩,?_⟩
   ·have:=(hh.get (σ0:=σ0) t.before).congr (sv' :=sv') (fun x hx=>by rw[(a1 x (by omega)).2.1,e2 x hx.1])
    refine this.iff fun x _=> ?_
    simp only[Z2,hti]
   ·rw[(a1 j (by omega)).1,(a1 j (by omega)).2.1,e3,e4]
    exact h2
   ·rw[(a1 j (by omega)).2.2,e6]
    simp only[tSf,hti]
   ·intro k hk hbf tj tk q1 q2 q3
    rw[hti] at q1
    obtain rfl:=Option.some.inj q1
    rw[(a1 j (by omega)).2.2,e6,(a1 k (by omega)).2.2,e5 k hk]
    rcases bE6 hso _ (hbl k tk hk q2) with h | h | h
    ·simp only[Z2,hti] at hbf;rw[hbf] at h;cases h
    ·rw[q3] at h;cases h
    ·exact h
end
end Go.RX
