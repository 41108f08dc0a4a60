/-
  Words and walks for DeciderProposes. No condition.
-/
import Derived.Scope
import Derived.ControlIn
import Derived.CallsIn
import Derived.TacticsIn
import Derived.OrdersIn
import Derived.RangeFuncRecord
import Derived.Test.YtajehicfjidaiaaGreatDoorDeciderProposesX0
set_option linter.unusedSectionVars false
set_option linter.unnecessarySimpa false
set_option linter.unusedSimpArgs false
set_option linter.unusedVariables false
namespace Go.RX
open Go
section
variable {P : Program} {w : World} {Im : Nat → Prop} {φ : y0} {σ : i0}
theorem dT3 {n k:Nat}{new:List (List D)}{news:List Value}{dp:Bool} (hlen:news.length=new.length*n) (hk:k≤new.length)
  (hrel:∀(i j:Nat) (r:List D) (d:D),new[i]? =some r→r[j]? =some d→∃u,news[i*n+j]? =some u∧i9 w Im (if dp then φ else []) d u) (hrows:∀r∈new,aj9 n r):
  (news.take (k*n)).length=(new.take k).length*n∧∀(i j:Nat) (r:List D) (d:D),(new.take k)[i]? =some r→r[j]? =some d→∃u,(news.take (k*n))[i*n+j]? =some u∧i9 w Im (if dp then φ else []) d u:=by
 have:=Nat.mul_le_mul_right n hk
 refine⟨by simp;rw[Nat.min_eq_left hk];omega,fun i j r d h1 h2=> ?_⟩
 rw[List.getElem?_take] at h1
 split at h1
 ·rename_i hi
  obtain⟨u,hu,hur⟩:=hrel i j r d h1 h2
  have hj:=(List.getElem?_eq_some_iff.1 h2).1
  rw[(hrows r (List.mem_of_getElem? h1)).1] at hj
  exact⟨u,by rw[List.getElem?_take,if_pos (bj3 hi hj)];exact hu,hur⟩
 ·cases h1
theorem ei7 (hi:Inv w Im φ σ) {t tx ty:TypeId}{d s:D}{dv sv:Value} (hd:i9 w Im φ d dv) (hs:i9 w Im φ s sv):p5 P w Im φ σ (Builtin.copy_ #[t,tx] ty #[dv,sv]) (dT0 P t d s σ):=by
 unfold dT0
 split
 ·rename_i e hu
  split
  ·rename_i n sz dp cnt rows b i len lo ex hn hrows
   split
   ·rename_i B hB
    split
    ·rename_i hc
     obtain⟨hc1,hc2,hc3⟩:=hc
     subst hc2
     refine cs2 fun hcnt=> ?_
     obtain⟨news,hsrc⟩:=cM3 hi hs hrows hc1 hc3 hcnt
     obtain⟨ie,g1,g2⟩:=cv3 hn
     obtain⟨l,hl,hdv⟩:=hd.msl_inv
     obtain⟨l',hl',hk⟩:=hi.loc hB
     obtain rfl:=Option.some.inj (hl.symm.trans hl')
     intro hb
     show p5 P w Im φ σ _ (.ok _ _)
     have hb' :=Nat.le_of_ble_eq_true hb
     have hm:min rows.length len≤rows.length:=Nat.min_le_left _ _
     have hm2:min rows.length len≤len:=Nat.min_le_right _ _
     obtain⟨t1,t2⟩:=dT3 hsrc.len hm hsrc.rel hsrc.rows
     have hfit:=hk.fit
     have hin:l.base+(i+min rows.length len)*B.sz≤l.size:=by
      have:=Nat.mul_le_mul_right B.sz (show i+min rows.length len≤B.rows.length by omega)
      omega
     have htl:(rows.take (min rows.length len)).length=min rows.length len:=by simp
     obtain⟨b1,b2⟩:=cp6 hi hB hl i (by omega) t1 (fun r hr=>hsrc.rows r (List.mem_of_mem_take hr)) t2 (by rw[htl];exact hin) true
     simp only[if_true,htl] at b1 b2
     refine⟨.int .i64 ((min rows.length len:Nat):Int),_,φ,?_,n7.refl _,b2,b1,.int _ _⟩
     --the run
     rcases hdv with⟨rfl,rfl,rfl⟩ | ⟨cap,ad,rfl,a1,a2,a3,a4,a5,a6⟩
     ·have hlen:∀w' :World,(Builtin.lenOf sv).run P w' =.ok rows.length w' :=by
       rcases hsrc.kind with⟨a,c,rfl,_⟩ | ⟨rfl,h0,_⟩ | ⟨s',rfl,_,_,h0⟩
       ·intro;rfl
       ·intro;rw[h0];rfl
       ·intro;rw[h0];rfl
      have hcells:(Builtin.firstCells B.sz 0 sv).run P w=.ok #[] w:=by
       rcases hsrc.kind with⟨a,c,rfl,hcell⟩ | ⟨rfl,h0,h1⟩ | ⟨s',rfl,hs1,hs2,h0⟩
       ·exact run_firstCells_some w B.sz 0 a _ c [] (by simp) (fun j u hj=>by simp at hj)
       ·simpa using run_firstCells_none w B.sz 0 0 0
       ·simp[Builtin.firstCells,byteCells]
      have h00:min rows.length 0=0:=by simp
      simp[Builtin.copy_,run_underlying hu,hlen,G6 hn,hcells,goInt,World.setCells]
     have hlen:∀w' :World,(Builtin.lenOf sv).run P w' =.ok rows.length w' :=by
      rcases hsrc.kind with⟨a,c,rfl,_⟩ | ⟨rfl,h0,_⟩ | ⟨s',rfl,_,_,h0⟩
      ·intro;rfl
      ·intro;rw[h0];rfl
      ·intro;rw[h0];rfl
     have hcells:(Builtin.firstCells ie.size (min rows.length len) sv).run P w=.ok (news.take (min rows.length len*B.sz)).toArray w:=by
      rw[g2]
      rcases hsrc.kind with⟨a,c,rfl,hcell⟩ | ⟨rfl,h0,h1⟩ | ⟨s',rfl,hs1,hs2,h0⟩
      ·exact run_firstCells_some w B.sz (min rows.length len) a _ c _ (by rw[t1,htl]) (fun j u hj=>hcell j u (by rw[List.getElem?_take] at hj;split at hj;exact hj;cases hj))
      ·subst h0;subst h1;simpa using run_firstCells_none w B.sz 0 0 0
      ·rw[hs1] at*
       simp only[Builtin.firstCells,Sem.run_pure,hs2,Nat.mul_one]
       congr 1
       apply Array.ext'
       simp[byteCells,ByteArray.data_extract,List.extract_eq_take_drop]
     have hst:(match (some ad:Option Addr) with | some a=>storeCells a (news.take (min rows.length len*B.sz)) | none=>pure ()).run P w=.ok () (w.setCells l.blk (l.base+i*B.sz) (news.take (min rows.length len*B.sz))):=by
      by_cases hcap:cap=0
      ·have h0:min rows.length len=0:=by omega
       rw[h0];simp[storeCells,World.setCells]
      ·obtain rfl:=a6 hcap
       have hone:∀v∈news.take (min rows.length len*B.sz),v.oneCell' =true:=fun v hv=>hsrc.one v (List.mem_of_mem_take hv)
       have hmem:∀j,j<(news.take (min rows.length len*B.sz)).length→l.base+i*B.sz+j<l.size:=fun j hj=>by
        rw[t1,htl] at hj
        rw[Nat.add_mul] at hin
        omega
       have:=run_storeCells_cells (P:=P) l.blk (l.base+i*B.sz) _ 0 w (fun j hj=>by simpa using(hk.mem _ (hmem j hj)).1) (fun j hj=>by simpa using(hk.mem _ (hmem j hj)).2) hone
       rw[hk.sz]
       simpa using this
     have hmin:Nat.min rows.length len=min rows.length len:=rfl
     rw[g2] at hcells
     have hst' :(storeCells ad (news.take (min rows.length len*B.sz))).run P w=.ok () (w.setCells l.blk (l.base+i*B.sz) (news.take (min rows.length len*B.sz))):=hst
     simp[Builtin.copy_,run_underlying hu,hlen,G6 hn,hmin,hcells,hst',goInt]
    ·trivial
   ·trivial
  ·trivial
 ·trivial
theorem ea3 (hi:Inv w Im φ σ) {t ty:TypeId}{s:D}{sv:Value} (hs:i9 w Im φ s sv):p5 P w Im φ σ (Builtin.clear_ #[t] ty #[sv]) (dw5 P t s σ):=by
 unfold dw5
 split
 ·rename_i e nsz rows hu
  obtain⟨rfl,-⟩:=hs.nilsl_inv
  exact p5.pure hi ⟨.tuple #[],by simp[Builtin.clear_,run_underlying hu],.tup _ _ (by simp) (fun i d v h=>by simp at h)⟩
 ·rename_i e b i len lo ex hu
  split
  ·rename_i n zs B hn hzs hB
   split
   ·rename_i hc
    obtain⟨hc1,hc2,hc3,hc4⟩:=hc
    subst hc3
    intro hb
    have hb' :=Nat.le_of_ble_eq_true hb
    cases hz:ct2 P e with
    | none=>rw[hz] at hzs;cases hzs
    | some z=>
     obtain⟨ie,zv,g1,g2,hzr⟩:=cH0 (w:=w) (Im:=Im) (φ:=φ) hz
     have hzz:zs=z:=Option.some.inj (hzs.symm.trans hz)
     subst hzz
     have hien:ie.size=B.sz:=by unfold U3 at hn;simpa[g1] using hn
     have hzsz:zv.cells.size=B.sz:=by rw[←hzr.1,hc1]
     obtain⟨l,hl,hsv⟩:=hs.msl_inv
     obtain⟨l',hl',hk⟩:=hi.loc hB
     obtain rfl:=Option.some.inj (hl.symm.trans hl')
     show p5 P w Im φ σ _ (.ok _ _)
     have hrr:=bP3 (w:=w) (Im:=Im) (φ:=φ) B.sz len zs zv.cells hzr hc1 hc2
     have hzc:Builtin.zeroCells zv.cells len=(Array.range (len*B.sz)).map (zv.cells[· %zv.cells.size]!):=by simp[Builtin.zeroCells,hzsz]
     have hsz:(Builtin.zeroCells zv.cells len).toList.length=len*B.sz:=by rw[hzc];simp
     have hrows:∀r∈List.replicate len zs,aj9 B.sz r:=fun r hr=>by rw[(List.mem_replicate.1 hr).2];exact⟨hc1,hc4⟩
     have hfit:=hk.fit
     have hin:l.base+(i+len)*B.sz≤l.size:=by
      have:=Nat.mul_le_mul_right B.sz hb'
      omega
     have hrel:∀(i j:Nat) (r:List D) (d:D),(List.replicate len zs)[i]? =some r→r[j]? =some d→∃u,(Builtin.zeroCells zv.cells len).toList[i*B.sz+j]? =some u∧i9 w Im (if zs.any B3 then φ else []) d u:=fun i j r d h1 h2=>by
      obtain⟨u,hu,hur⟩:=hrr.2.2 i j r d h1 h2
      have hrz:=(List.mem_replicate.1 (List.mem_of_getElem? h1)).2
      refine⟨u,by rw[hzc,Array.getElem?_toList];exact hu,?_⟩
      rw[hrz] at h2
      exact bq2 hc4 (fun h=>h) h2 hur
     obtain⟨b1,b2⟩:=cp6 hi hB hl i (by omega) (new:=List.replicate len zs) (by rw[hsz];simp) hrows hrel (by simpa using hin) true
     simp only[if_true,List.length_replicate] at b1 b2
     refine⟨.tuple #[],_,φ,?_,n7.refl _,b2,b1,.tup _ _ (by simp) (fun i d v h=>by simp at h)⟩
     rcases hsv with⟨rfl,rfl,rfl⟩ | ⟨cap,ad,rfl,a1,a2,a3,a4,a5,a6⟩
     ·have:(Builtin.zeroCells zv.cells 0).toList= []:=List.eq_nil_of_length_eq_zero (by rw[hsz];simp)
      rw[this]
      simp[Builtin.clear_,run_underlying hu,World.setCells]
     by_cases h0:len=0
     ·subst h0
      have:(Builtin.zeroCells zv.cells 0).toList= []:=List.eq_nil_of_length_eq_zero (by rw[hsz];simp)
      rw[this]
      simp[Builtin.clear_,run_underlying hu,World.setCells]
     ·obtain rfl:=a6 (by omega)
      have hone:∀v∈(Builtin.zeroCells zv.cells len).toList,v.oneCell' =true:=fun v hv=>by
       obtain⟨p,hp,rfl⟩:=List.getElem_of_mem hv
       have hp' :=hp
       rw[hsz] at hp'
       have h1:p/B.sz<len:=(Nat.div_lt_iff_lt_mul hc2).2 hp'
       have h2:p%B.sz<B.sz:=Nat.mod_lt _ hc2
       have h3:p/B.sz*B.sz+p%B.sz=p:=by rw[Nat.mul_comm];exact Nat.div_add_mod p B.sz
       obtain⟨u,hu',hur⟩:=hrel (p/B.sz) (p%B.sz) zs (zs[p%B.sz]'(by omega)) (by simp[List.getElem?_replicate,h1]) (by simp)
       rw[h3,List.getElem?_eq_getElem hp] at hu'
       rw[Option.some.inj hu']
       exact hur.one (List.all_eq_true.1 hc4 _ (List.getElem_mem _))
      have hmem:∀j,j<(Builtin.zeroCells zv.cells len).toList.length→l.base+i*B.sz+j<l.size:=fun j hj=>by
       rw[hsz] at hj
       rw[Nat.add_mul] at hin
       omega
      have:=run_storeCells_cells (P:=P) l.blk (l.base+i*B.sz) _ 0 w (fun j hj=>by simpa using(hk.mem _ (hmem j hj)).1) (fun j hj=>by simpa using(hk.mem _ (hmem j hj)).2) hone
      simp only[Nat.add_zero] at this
      rw[hk.sz]
      obtain⟨m,rfl⟩:∃m,len=m+1:=⟨len-1,by omega⟩
      simp only[Builtin.clear_]
      simp[run_underlying hu,zeroValue,typeInfo,g1,g2,this]
   ·trivial
  ·trivial
 ·trivial
theorem dE7 (w:World) (cs:Array Value) (e:TypeId):(w.alloc (.cells cs e (0,0))).freeze ⟨w.heap.size,cs.size,none⟩ 1=w.alloc (.cells cs e (cs.size,cs.size+1)):=by
 simp only[World.freeze]
 rw[if_neg (by omega)]
 show({ w with heap:=(w.heap.push (.cells cs e (0,0))).modify w.heap.size _ }:World)={ w with heap:=w.heap.push (.cells cs e (cs.size,cs.size+1)) }
 congr 1
 apply Array.ext
 ·simp
 ·intro i h1 h2
  simp only[Array.getElem_modify,Array.getElem_push]
  by_cases hi:w.heap.size=i
  ·subst hi;simp
  ·simp only[if_neg hi]
   split
   ·rfl
   ·exfalso;simp at h2;omega
theorem dz8 {xv:Value}{dp:Bool}{rows:List (List D)}{news:List Value}{bs:List UInt8} (h:dv9 w Im φ xv 1 dp rows news) (hb:bG9 rows=some bs):
  ∃ns:List Int,news=ns.map (Value.int .u8)∧(ns.map fun n=>UInt8.ofNat n.toNat)=bs:=by
 have hl:=h.len
 have hr:=h.rel
 clear h
 rw[Nat.mul_one] at hl
 induction rows generalizing news bs with
 | nil=>simp[bG9] at hb;subst hb;simp at hl;subst hl;exact⟨[],rfl,rfl⟩
 | cons r rows ih=>
  cases news with
  | nil=>simp at hl
  | cons v news=>
   simp only[bG9] at hb
   split at hb
   ·rename_i n
    split at hb
    ·rename_i s hs
     obtain rfl:=Option.some.inj hb
     obtain⟨ns,h1,h2⟩:=ih (news:=news) hs (by simpa using hl) (fun i j r d a b=>by
      obtain⟨u,hu,hur⟩:=hr (i+1) j r d (by simpa using a) b
      refine⟨u,?_,hur⟩
      rw[show(i+1)*1+j=(i*1+j)+1 by omega] at hu
      simpa using hu)
     obtain⟨u,hu,hur⟩:=hr 0 0 [.int .u8 n] (.int .u8 n) rfl rfl
     simp at hu
     subst hu
     have:=hur.int_inv
     subst this
     exact⟨n::ns,by simp[h1],by simp[h2]⟩
    ·cases hb
   ·cases hb
theorem el2 (hi:Inv w Im φ σ) {s d:TypeId}{x:D}{xv:Value} (hx:i9 w Im φ x xv):p5 P w Im φ σ (convert s d xv) (bQ2 P s d x σ):=by
 unfold bQ2
 split
 ·rename_i k1 k k2 n h1 h2
  obtain rfl:=hx.int_inv
  exact p5.pure hi ⟨_,by simp[convert,run_underlying h1,run_underlying h2,Conv.intToInt],.int _ _⟩
 ·rename_i b h1 h2
  obtain⟨s',rfl,rfl⟩:=hx.str_inv
  exact p5.pure hi ⟨_,by simp[convert,run_underlying h1,run_underlying h2],.str _ _ rfl⟩
 ·rename_i e l h1 h2
  obtain⟨b,rfl,rfl⟩:=hx.str_inv
  split
  ·rename_i h3
   generalize hcap:(Question.appendCap b.size 0 e).cut (w.tape w.drawn (.appendCap b.size 0 e))=cap
   have hge:b.size≤cap:=by rw[←hcap];simp[Question.cut]
   have hbs:b.data.toList.length=b.size:=by simp
   have harr:((b.data.map fun(c:UInt8)=>Value.int .u8 c.toNat)++Array.replicate (cap-b.size) (Value.int .u8 0)).size=cap:=by
    simp
    have:b.data.size=b.size:=rfl
    omega
   have hget:∀(i:Nat) (c:UInt8),b.data.toList[i]? =some c→((b.data.map fun(c:UInt8)=>Value.int .u8 c.toNat)++Array.replicate (cap-b.size) (Value.int .u8 0))[i*1+0]? =some (.int .u8 c.toNat):=fun i c hc=>by
    have hlt:=(List.getElem?_eq_some_iff.1 hc).1
    rw[Nat.mul_one,Nat.add_zero,Array.getElem?_append_left (by simpa using hlt)]
    simp at hc ⊢
    exact⟨c,hc,rfl⟩
   have hg:=bS4 (e:=e) (w:=w.drew) hi.drew (n:=1) (by omega) (rows:=b.data.toList.map fun c=> [.int .u8 (c.toNat:Int)]) (cs:=(b.data.map fun(c:UInt8)=>Value.int .u8 c.toNat)++Array.replicate (cap-b.size) (Value.int .u8 0)) (cap,cap+1)
    (.inr (by rw[harr];exact Nat.le_refl _)) (fun r hr=>by
     simp only[List.mem_map] at hr
     obtain⟨c,_,rfl⟩:=hr
     rfl) (by rw[harr];simp;have:b.data.size=b.size:=rfl;omega) (fun i j r d g1 g2=>by
     simp only[List.getElem?_map,Option.map_eq_some_iff] at g1
     obtain⟨c,hc,rfl⟩:=g1
     cases j with
     | zero=>simp at g2;subst g2;exact⟨_,hget i c hc,.int _ _⟩
     | succ j=>simp at g2) (fun r hr=>by
     simp only[List.mem_map] at hr
     obtain⟨c,_,rfl⟩:=hr
     rfl) false (fun r hr h=>by
     simp only[List.mem_map] at hr
     obtain⟨c,_,rfl⟩:=hr
     simp[B3] at h) b.data.toList.length cap b.data.toList.length false (Nat.le_refl _) (by rw[hbs];exact hge) (fun h=>by cases h) (by rw[harr];omega)
   have hrl:(b.data.toList.map fun c=> [D.int .u8 (c.toNat:Int)]).length=b.data.toList.length:=by simp
   show p5 P w Im φ σ _ (.ok (.msl σ.length 0 (b.data.toList.map fun c=> [D.int .u8 (c.toNat:Int)]).length (b.data.toList.map fun c=> [D.int .u8 (c.toNat:Int)]).length false) _)
   rw[hrl]
   refine⟨_,_,_,?_,ak8.after (n7.refl _) (Nat.le_refl _) (Tr.drew _ _ _ _ _) hg⟩
   have hfr:=dE7 w.drew ((b.data.map fun(c:UInt8)=>Value.int .u8 c.toNat)++Array.replicate (cap-b.size) (Value.int .u8 0)) e
   rw[harr] at hfr
   have hsz:w.drew.heap.size=w.heap.size:=rfl
   have hshape:(w.drew.alloc (.cells ((b.data.map fun(c:UInt8)=>Value.int .u8 c.toNat)++Array.replicate (cap-b.size) (Value.int .u8 0)) e)).shape? w.heap.size=some (e,cap):=by
    have:(w.drew.alloc (.cells ((b.data.map fun(c:UInt8)=>Value.int .u8 c.toNat)++Array.replicate (cap-b.size) (Value.int .u8 0)) e)).heap[w.heap.size]? =some (.cells ((b.data.map fun(c:UInt8)=>Value.int .u8 c.toNat)++Array.replicate (cap-b.size) (Value.int .u8 0)) e):=by
     rw[show(w.drew.alloc (.cells ((b.data.map fun(c:UInt8)=>Value.int .u8 c.toNat)++Array.replicate (cap-b.size) (Value.int .u8 0)) e)).heap=w.heap.push _ from rfl];simp
    simp only[World.shape?,this,harr]
   rw[hsz] at hfr hg
   rw[←hfr,hbs]
   have hf:(Question.appendCap b.size 0 e).forced=false:=rfl
   have hdr:({ w with drawn:=w.drawn+1 }:World)=w.drew:=rfl
   simp only[convert,run_underlying h1,run_underlying h2,run_underlying h3,Sem.run_bind,Result.andThen_ok,Conv.stringToBytes,choose,Sem.run,hf,Bool.false_eq_true,if_false,hcap,hdr,newRow,newObj,markStringish,shape]
   show((Sem.run P (Pure.pure _) (w.drew.alloc _)).andThen _)=_
   simp only[Sem.run_pure,Result.andThen_ok,hshape]
   simp[freeze,Sem.run]
  ·trivial
 ·rename_i e0 e b i len lo ex h1 h2
  split
  ·rename_i B h3 hB
   split
   ·rename_i hsd
    obtain⟨rfl,hsz⟩:=hsd
    intro hlen
    have hlen' :0<len:=Nat.le_of_ble_eq_true hlen
    cases hx with
    | mnil=>omega
    | msl b i len lo ex l cap a g1 g2 g3 g4 g5 g6 g7=>
     have hk:=hi.blk b B l hB g1
     have hcap:0<cap:=by omega
     have hp:0<l.size:=by
      have:=hk.pos
      have h9:=hk.sz
      have:l.sz≤(i+cap)*l.sz:=Nat.le_mul_of_pos_left _ (by omega)
      omega
     have ha:=g7 (by omega)
     obtain⟨cs,ce,cf,hobj⟩:∃cs ce cf,w.heap[l.blk]? =some (.cells cs ce cf):=by
      have:=(hk.mem 0 hp).1
      simp only[World.cell?] at this
      split at this
      ·rename_i cs ce cf hh;exact⟨cs,ce,cf,hh⟩
      ·simp at this
     have hn:l.size≤cs.size:=by
      have:=(hk.mem (l.size-1) (by omega)).1
      simp only[World.cell?,hobj] at this
      simp at this
      omega
     obtain⟨i1,i2⟩:=hi.mark hB g1 hp hn
     refine⟨_,_,φ,?_,n7.refl _,i2,i1,.msl b i len lo ex l cap a g1 g2 g3 g4 g5 g6 g7⟩
     have hshape:w.shape? l.blk=some (ce,cs.size):=by
      simp only[World.shape?,hobj]
     rw[h1] at h2
     obtain rfl:e0=e:=by simpa using h2
     simp only[convert,run_underlying h1,run_underlying h3,markStringish,shape,Sem.run,freeze,ha,Sem.run_bind,Result.andThen_ok,hshape,beq_self_eq_true]
     rfl
   ·trivial
  ·trivial
 ·rename_i x' e h1 h2
  split
  ·rename_i sz dq cnt rows h3 h4 h5
   split
   ·rename_i hsz
    obtain⟨hsz,hnstr⟩:=hsz
    refine cs2 fun hcnt=> ?_
    intro bs hbs
    obtain⟨news,hsrc⟩:=cM3 hi hx h5 hsz (by omega) hcnt
    refine p5.pure hi ?_
    obtain⟨ns,hns1,hns2⟩:=dz8 hsrc hbs
    rcases hsrc.kind with⟨a,c,rfl,hcell⟩ | ⟨rfl,h0,h00⟩ | ⟨s',rfl,_,_,_⟩
    ·refine⟨.string (ns.foldl (fun r n=>r.push (UInt8.ofNat n.toNat)) ByteArray.empty),?_,.str _ _ ?_⟩
     ·rw[run_convert_bytes_string w s d e _ _ _ h1 h3 h2]
      refine run_bytesToString w a _ c ns ?_
      rw[←hns1]
      have:=run_loadCells_list (P:=P) w a news hcell
      rw[hsrc.len,Nat.mul_one] at this
      exact this
     ·rw[←hns2]
      have key:∀(l:List Int) (b:ByteArray),(l.foldl (fun r (n:Int)=>r.push (UInt8.ofNat n.toNat)) b).data.toList=b.data.toList++l.map fun n=>UInt8.ofNat n.toNat:=by
       intro l
       induction l with
       | nil=>intro b;simp
       | cons x l ih=>intro b;simp only[List.foldl_cons,List.map_cons];rw[ih];simp
      rw[key];simp
    ·subst h0
     simp[bG9] at hbs
     subst hbs
     exact⟨.string .empty,by rw[run_convert_bytes_string w s d e _ _ _ h1 h3 h2];simp[Conv.bytesToString],.str _ _ rfl⟩
    ·cases hx with
     | undef=>simp[bD5] at h5
     | str=>simp[cb5] at hnstr
   ·trivial
  ·trivial
 ·trivial
theorem dJ9 (hi:Inv w Im φ σ) {t tx ty:TypeId}{k:IntKind}{s x:D}{sv xv:Value} (hs:i9 w Im φ s sv) (hx:i9 w Im φ x xv) (htx:P.underlying tx=some (.int k)):
  p5 P w Im φ σ (Builtin.append_ #[t,tx] ty #[sv,xv]) (cw1 P t s x σ):=by
 unfold cw1
 split
 ·rename_i e hu
  split
  ·rename_i n by_ zs sz rows k' m hn hby hzs
   obtain⟨rfl,rfl⟩:=hs.nilsl_inv
   obtain rfl:=hx.int_inv
   split
   ·rename_i hc
    obtain⟨hc1,hc2,hc3,hc4⟩:=hc
    intro hcond
    simp only[Bool.and_eq_true,decide_eq_true_eq] at hcond
    obtain⟨p1,p2⟩:=hcond
    have p2:m.toNat*by_≤140737488355328:=p2
    obtain⟨len,rfl⟩:=Int.eq_ofNat_of_zero_le (show 0≤m by omega)
    rw[Int.toNat_natCast] at p2 ⊢
    have hpos:0<len:=by omega
    cases hz:ct2 P e with
    | none=>rw[hz] at hzs;cases hzs
    | some z=>
     obtain⟨ie,zv,g1,g2,hzr⟩:=cH0 (w:=w) (Im:=Im) (φ:=φ) hz
     have hzz:zs=z:=Option.some.inj (hzs.symm.trans hz)
     subst hzz
     have hien:ie.size=n:=by unfold U3 at hn;simpa[g1] using hn
     have hzsz:zv.cells.size=n:=by rw[←hzr.1,hc1]
     obtain⟨ie',g4,g5⟩:=cr5 hby
     obtain rfl:=Option.some.inj (g1.symm.trans g4)
     have hrr:=bP3 (w:=w) (Im:=Im) (φ:=φ) n len zs zv.cells hzr hc1 hc2
     have hzc:Builtin.zeroCells zv.cells len=(Array.range (len*n)).map (zv.cells[· %zv.cells.size]!):=by simp[Builtin.zeroCells,hzsz]
     have hsz:(Builtin.zeroCells zv.cells len).toList.length=(List.replicate len zs).length*n:=by rw[hzc];simp
     have hrel:∀(i j:Nat) (r:List D) (d:D),(List.replicate len zs)[i]? =some r→r[j]? =some d→∃u,(Builtin.zeroCells zv.cells len).toList[i*n+j]? =some u∧i9 w Im (if zs.any B3 then φ else []) d u:=fun i j r d h1 h2=>by
      obtain⟨u,hu,hur⟩:=hrr.2.2 i j r d h1 h2
      have hrz:=(List.mem_replicate.1 (List.mem_of_getElem? h1)).2
      refine⟨u,by rw[hzc,Array.getElem?_toList];exact hu,?_⟩
      rw[hrz] at h2
      exact bq2 hc4 (fun h=>h) h2 hur
     show p5 P w Im φ σ _ (.ok _ _)
     have hg:=bP4 (e:=e) hi (olds:= []) (ovs:= []) (dp:=false) (dq:=zs.any B3) (n:=n) (z:=zv.cells) hzsz hc2 (by simp) (by simp) (by simp) hsz (fun r hr=>by rw[(List.mem_replicate.1 hr).2];exact⟨hc1,hc4⟩) hrel (grownCap w (0+len) 0 e) (by simpa using bt7 w (0+len) 0 e)
     simp only[List.length_nil,Nat.zero_add,List.nil_append,Bool.false_or] at hg
     have q3:=Nat.le_mul_of_pos_right len hc3
     have q4:=Nat.mul_le_mul_right by_ (Room.nextslicecap_le' (need:=len) (old:=0) hpos)
     rw[Nat.mul_assoc] at q4
     refine⟨_,_,_,?_,hg⟩
     have hw:=cF2 (n:=(len:Int)) (by omega) (by omega)
     have h63' :¬(9223372036854775807<(len:Int)):=by omega
     have h48' :¬(281474976710656<Builtin.nextslicecap len 0*ie.bytes):=by rw[g5];omega
     have hb48:¬((len:Int)*(ie.bytes:Int)>281474976710656):=by
      have e1:(len:Int)*(ie.bytes:Int)=((len*by_:Nat):Int):=by rw[g5];simp
      rw[e1];omega
     have hn0:¬(len*n=0):=by
      have:=Nat.mul_pos hpos hc2
      omega
     have hne:¬len=0:=by omega
     have hnn:¬n=0:=by omega
     simp[Builtin.append_,run_underlying hu,run_underlying htx,sizeOf,typeInfo,zeroValue,g1,g2,asInt,asIntOf,hw,hb48,hien,hne,hnn,h63',h48',Question.forced,newRow,grownCap,Builtin.firstCells]
     rw[if_neg (show ¬((len:Int)<0) by omega),if_neg hn0]
   ·trivial
  ·trivial
 ·trivial
end
section
variable {P : Program} {w : World} {Im : Nat → Prop} {φ : y0} {σ : i0}
theorem ey9 (hi:Inv w Im φ σ) {t ty:TypeId}{x:D}{xv:Value} (hx:i9 w Im φ x xv):
  p5 P w Im φ σ (Builtin.len_ #[t] ty #[xv]) (dw0 P t x σ):=by
 unfold dw0
 split
 ·rename_i n e hu
  exact p5.pure hi ⟨_,by simp[Builtin.len_,run_underlying hu,goInt],.int _ _⟩
 ·rename_i e nl sz rows hu
  cases nl with
  | true=>obtain⟨rfl,rfl⟩:=hx.nilsl_inv;exact p5.pure hi ⟨_,by simp[Builtin.len_,run_underlying hu,goInt],.int _ _⟩
  | false=>
   rcases hx.sl_inv with⟨rfl,rfl⟩ | ⟨c,base,cap,a,rfl,-⟩
   ·exact p5.pure hi ⟨_,by simp[Builtin.len_,run_underlying hu,goInt],.int _ _⟩
   ·exact p5.pure hi ⟨_,by simp[Builtin.len_,run_underlying hu,goInt],.int _ _⟩
 ·rename_i e b i len lo ex hu
  obtain⟨l,-,⟨rfl,rfl,-⟩ | ⟨cap,a,rfl,-⟩⟩:=hx.msl_inv
  ·exact p5.pure hi ⟨_,by simp[Builtin.len_,run_underlying hu,goInt],.int _ _⟩
  ·exact p5.pure hi ⟨_,by simp[Builtin.len_,run_underlying hu,goInt],.int _ _⟩
 ·rename_i s hu
  obtain⟨b,rfl,rfl⟩:=hx.str_inv
  refine p5.pure hi ⟨.int .i64 (b.data.toList.length:Int),?_,.int _ _⟩
  simp[Builtin.len_,run_underlying hu,goInt]
 ·trivial
theorem ev7 (hi:Inv w Im φ σ) {t ty:TypeId}{x:D}{xv:Value} (hx:i9 w Im φ x xv):
  p5 P w Im φ σ (Builtin.cap_ #[t] ty #[xv]) (dv0 P t x σ):=by
 unfold dv0
 split
 ·rename_i e sz rows hu
  obtain⟨rfl,rfl⟩:=hx.nilsl_inv;exact p5.pure hi ⟨_,by simp[Builtin.cap_,run_underlying hu,goInt],.int _ _⟩
 ·rename_i e b i len lo hu
  obtain⟨l,-,⟨rfl,-,rfl⟩ | ⟨cap,a,rfl,-,-,h,-⟩⟩:=hx.msl_inv
  ·exact p5.pure hi ⟨_,by simp[Builtin.cap_,run_underlying hu,goInt],.int _ _⟩
  obtain rfl:=h rfl
  exact p5.pure hi ⟨_,by simp[Builtin.cap_,run_underlying hu,goInt],.int _ _⟩
 ·trivial
theorem eb2:∀(ds:List D) (vs:List Value) (k:IntKind) (x:Int) (d:D),ds.length=vs.length→(∀(i:Nat) (d:D) (v:Value),ds[i]? =some d→vs[i]? =some v→i9 w Im φ d v)→
  ds.foldl cM7 (some (.int k x))=some d→
  ∃k' y,d=.int k' y∧(vs.foldlM Builtin.min2 (.int k x)).run P w=.ok (.int k' y) w
 | [],[],k,x,d,_,_,h=>by simp at h;exact⟨k,x,h.symm,by simp⟩
 | e::ds,v::vs,k,x,d,hl,hr,h=>by
  have hev:=hr 0 e v rfl rfl
  have hnone:∀(l:List D),l.foldl cM7 (none:Option D)=none:=by
   intro l;induction l with
   | nil=>rfl
   | cons a l ih=>exact ih
  rw[List.foldl_cons] at h
  obtain⟨k2,y,rfl⟩:∃k2 y,e=.int k2 y:=by
   cases e<;>first | exact⟨_,_,rfl⟩ | (simp only[cM7] at h;rw[hnone] at h;cases h)
  obtain rfl:=hev.int_inv
  obtain⟨k',z,h1,h2⟩:=eb2 ds vs k _ d (by simpa using hl) (fun i d v a b=>hr (i+1) d v (by simpa using a) (by simpa using b)) h
  exact⟨k',z,h1,by simp only[List.foldlM_cons,Sem.run_bind,Builtin.min2,Sem.run_pure,Result.andThen_ok];exact h2⟩
 | [],_::_,_,_,_,hl,_,_=>by simp at hl
 | _::_,[],_,_,_,hl,_,_=>by simp at hl
theorem eg1:∀(ds:List D) (vs:List Value) (k:IntKind) (x:Int) (d:D),ds.length=vs.length→(∀(i:Nat) (d:D) (v:Value),ds[i]? =some d→vs[i]? =some v→i9 w Im φ d v)→
  ds.foldl cV5 (some (.int k x))=some d→
  ∃k' y,d=.int k' y∧(vs.foldlM Builtin.max2 (.int k x)).run P w=.ok (.int k' y) w
 | [],[],k,x,d,_,_,h=>by simp at h;exact⟨k,x,h.symm,by simp⟩
 | e::ds,v::vs,k,x,d,hl,hr,h=>by
  have hev:=hr 0 e v rfl rfl
  have hnone:∀(l:List D),l.foldl cV5 (none:Option D)=none:=by
   intro l;induction l with
   | nil=>rfl
   | cons a l ih=>exact ih
  rw[List.foldl_cons] at h
  obtain⟨k2,y,rfl⟩:∃k2 y,e=.int k2 y:=by
   cases e<;>first | exact⟨_,_,rfl⟩ | (simp only[cV5] at h;rw[hnone] at h;cases h)
  obtain rfl:=hev.int_inv
  obtain⟨k',z,h1,h2⟩:=eg1 ds vs k _ d (by simpa using hl) (fun i d v a b=>hr (i+1) d v (by simpa using a) (by simpa using b)) h
  exact⟨k',z,h1,by simp only[List.foldlM_cons,Sem.run_bind,Builtin.max2,Sem.run_pure,Result.andThen_ok];exact h2⟩
 | [],_::_,_,_,_,hl,_,_=>by simp at hl
 | _::_,[],_,_,_,hl,_,_=>by simp at hl
variable (w Im φ) in
def K4 (ds:List D) (vs:List Value):Prop:=ds.length=vs.length∧∀(i:Nat) (d:D) (v:Value),ds[i]? =some d→vs[i]? =some v→i9 w Im φ d v
theorem cJ9 {ρ:Operand→D}{ρc:Operand→Value} (hρ:∀x,i9 w Im φ (ρ x) (ρc x)) (args:List Operand):K4 w Im φ (args.map ρ) (args.map ρc):=
 ⟨by simp,fun i d v h1 h2=>by
  simp only[List.getElem?_map,Option.map_eq_some_iff] at h1 h2
  obtain⟨x,hx,rfl⟩:=h1
  obtain⟨y,hy,rfl⟩:=h2
  obtain rfl:=Option.some.inj (hx.symm.trans hy)
  exact hρ _⟩
theorem K4.one {x:D}{vs:List Value} (h:K4 w Im φ [x] vs):∃v,vs= [v]∧i9 w Im φ x v:=by
 obtain⟨h1,h2⟩:=h
 match vs,h1 with
 | [v],_=>exact⟨v,rfl,h2 0 x v rfl rfl⟩
theorem K4.two {x y:D}{vs:List Value} (h:K4 w Im φ [x,y] vs):∃v u,vs= [v,u]∧i9 w Im φ x v∧i9 w Im φ y u:=by
 obtain⟨h1,h2⟩:=h
 match vs,h1 with
 | [v,u],_=>exact⟨v,u,rfl,h2 0 x v rfl rfl,h2 1 y u rfl rfl⟩
theorem dK8 (hi:Inv w Im φ σ) {b:Builtin}{ts:Array TypeId}{ty:TypeId}{consts:Array Bool}{ds:List D}{vs:Array Value} (h:K4 w Im φ ds vs.toList):
  aP0 P w Im φ σ (builtin b ts ty consts vs) (aO6 P b ts.toList ds σ):=by
 have harr:∀l:List Value,vs.toList=l→vs=l.toArray:=fun l hl=>by rw[←hl]
 have hts:∀l:List TypeId,ts.toList=l→ts=l.toArray:=fun l hl=>by rw[←hl]
 unfold aO6
 split
 ·rename_i x t h1
  obtain⟨v,hv,hx⟩:=h.one
  obtain rfl:=harr _ hv
  obtain rfl:=hts _ h1
  exact p5.toA (ey9 hi hx)
 ·rename_i x t h1
  obtain⟨v,hv,hx⟩:=h.one
  obtain rfl:=harr _ hv
  obtain rfl:=hts _ h1
  exact p5.toA (ev7 hi hx)
 ·rename_i s x t t' h1
  obtain⟨v,u,hv,hs,hx⟩:=h.two
  obtain rfl:=harr _ hv
  obtain rfl:=hts _ h1
  split
  ·rename_i e hd hk
   refine p5.toA (cQ6 hi hs hx hd (.inl ⟨_,rfl⟩) (fun b hb=> ?_) (fun a n c _=>⟨_,rfl⟩))
   subst hb
   cases hx<;>simp[da9] at hk
  ·rename_i hd hk
   refine p5.toA (cQ6 hi hs hx hd (.inr rfl) (fun b hb=>rfl) (fun a n c hb=> ?_))
   subst hb
   cases hx<;>simp[da9] at hk
  ·rename_i k hd hk
   exact p5.toA (dJ9 hi hs hx hd)
  ·trivial
 ·rename_i d s t t' h1
  obtain⟨v,u,hv,hd,hs⟩:=h.two
  obtain rfl:=harr _ hv
  obtain rfl:=hts _ h1
  exact p5.toA (ei7 hi hd hs)
 ·rename_i s t h1
  obtain⟨v,hv,hs⟩:=h.one
  obtain rfl:=harr _ hv
  obtain rfl:=hts _ h1
  exact p5.toA (ea3 hi hs)
 ·refine p5.toA (p5.opt hi fun d hd=> ?_)
  unfold mnD at hd
  split at hd
  ·rename_i k x r
   obtain⟨h1,h2⟩:=h
   cases hvs:vs.toList with
   | nil=>rw[hvs] at h1;simp at h1
   | cons v rest=>
    rw[hvs] at h1 h2
    obtain rfl:=(h2 0 _ v rfl rfl).int_inv
    obtain⟨k',y,rfl,h3⟩:=eb2 r rest k x d (by simpa using h1) (fun i d v a b=>h2 (i+1) d v (by simpa using a) (by simpa using b)) hd
    exact⟨_,by simp only[Builtin.min_,hvs];exact h3,.int _ _⟩
  ·cases hd
 ·refine p5.toA (p5.opt hi fun d hd=> ?_)
  unfold mxD at hd
  split at hd
  ·rename_i k x r
   obtain⟨h1,h2⟩:=h
   cases hvs:vs.toList with
   | nil=>rw[hvs] at h1;simp at h1
   | cons v rest=>
    rw[hvs] at h1 h2
    obtain rfl:=(h2 0 _ v rfl rfl).int_inv
    obtain⟨k',y,rfl,h3⟩:=eg1 r rest k x d (by simpa using h1) (fun i d v a b=>h2 (i+1) d v (by simpa using a) (by simpa using b)) hd
    exact⟨_,by simp only[Builtin.max_,hvs];exact h3,.int _ _⟩
  ·cases hd
 ·trivial
theorem ct9 {g : FuncId} (h : cc0 P g = true) (vs : Array Value) : (callFunc g vs).run P w = .ok (.enter g vs) w := by
  unfold cc0 at h
  cases hf : P.funcs[g]? with
  | none => simp [hf] at h
  | some fn =>
    simp only [hf, Bool.and_eq_true, Bool.not_eq_true'] at h
    have h2 : fn.body.isNone = false := by cases hb : fn.body <;> simp_all
    have h3 : ¬ fn.name = "runtime.NumGoroutine" := by simpa using h.2
    have h4 : ¬ fn.body = none := fun e => by rw [e] at h2; simp at h2
    simp [callFunc, hf, h3, h4]
theorem ek5 (hi:Inv w Im φ σ) {ρ:Operand→D}{ρc:Operand→Value} (hρ:∀x,i9 w Im φ (ρ x) (ρc x)) (c:Call) (ty:TypeId):
  aP0 P w Im φ σ (do let d ←resolve ρc c ty;invoke d.target d.args) (callD P c ρ σ):=by
 have hargs:=cJ9 hρ c.args.toList
 unfold callD
 split
 ·rename_i b hb
  have hr:(do let d ←resolve ρc c ty;invoke d.target d.args:Sem Next)=builtin b c.argTypes ty (c.args.map fun | .const _=>true | _=>false) (c.args.map ρc):=by
   simp only[resolve,hb];rfl
  rw[hr]
  exact dK8 hi (by simpa using hargs)
 ·rename_i f hf
  have hfr:=hρ f
  split
  ·rename_i g first caps hg
   rw[hg] at hfr
   split
   ·rename_i hc
    cases hv:ρc f with
    | func fn vf vc=>
     rw[hv] at hfr
     cases hfr with
     | fn _ _ _ _ _ h1 h2 h3 h4=>
      refine⟨vf++c.args.map ρc++vc,?_,by simp[h1,h2],fun i d v a b=> ?_⟩
      ·simp[resolve,hf,Deferred.ofValue,hv,invoke,ct9 hc]
      ·rw[List.append_assoc] at a
       rw[Array.append_assoc] at b
       by_cases q1:i<first.length
       ·rw[List.getElem?_append_left q1] at a
        rw[Array.getElem?_append_left (by omega)] at b
        exact h3 i d v a b
       ·rw[List.getElem?_append_right (by omega)] at a
        rw[Array.getElem?_append_right (by omega)] at b
        by_cases q2:i-first.length<c.args.size
        ·rw[List.getElem?_append_left (by simpa using q2)] at a
         rw[Array.getElem?_append_left (by simp;omega),←h1] at b
         exact hargs.2 _ d v a (by simpa using b)
        ·rw[List.getElem?_append_right (by simp;omega)] at a
         rw[Array.getElem?_append_right (by simp;omega),←h1] at b
         exact h4 _ d v a (by simpa using b)
    | _=>rw[hv] at hfr;cases hfr
   ·trivial
  ·rename_i l hg
   rw[hg] at hfr
   cases hv:ρc f with
   | func fn vf vc=>
    rw[hv] at hfr
    cases hfr with
    | yld l=>
     refine⟨c.args.map ρc,?_,by simp,fun i d v a b=>hargs.2 i d v a (by simpa using b)⟩
     simp[resolve,hf,Deferred.ofValue,hv,invoke]
   | _=>rw[hv] at hfr;cases hfr
  ·trivial
 ·trivial
theorem bY5 (hi:Inv w Im φ σ) {ρ:Operand→D}{ρc:Operand→Value} (hρ:∀x,i9 w Im φ (ρ x) (ρc x)) (o:Oper):aP0 P w Im φ σ (execOp ρc o) (aop P ρ o σ):=by
 unfold aop execOp
 cases hop:o.op
 case move x=>
  simp only[]
  exact⟨_,w,φ,.inl rfl,ak8.refl hi (hρ x)⟩
 case assign x=>
  simp only[]
  exact⟨_,w,φ,.inl rfl,ak8.refl hi (hρ x)⟩
 case pick c a b=>
  simp only[]
  split
  ·rename_i x hx
   have hc:=hρ c
   rw[hx] at hc
   have hcv:=hc.bool_inv
   show aP0 P w Im φ σ _ (.ok (if x then ρ a else ρ b) σ)
   refine⟨_,w,φ,.inl (by simp[hcv,asBool];rfl),ak8.refl hi ?_⟩
   cases x
   ·exact hρ b
   ·exact hρ a
  ·trivial
 case alloc t=>
  simp only[]
  exact p5.toA (dH7 hi)
 case box t x=>
  simp only[]
  exact p5.toA (ez0 hi (hρ x))
 case build t parts=>
  simp only[]
  obtain⟨h1,h2⟩:=dk4 hρ parts
  exact p5.toA (dW5 hi h1 h2)
 case buildSlice t len parts=>
  simp only[]
  obtain⟨h1,h2⟩:=dk4 hρ parts
  exact p5.toA (cZ4 hi h1 h2)
 case load t a=>
  simp only[]
  exact p5.toA (ej8 hi (hρ a))
 case store t a x=>
  simp only[]
  exact cI7 (ed2 hi (hρ a) (hρ x))
 case nilCheck x=>
  simp only[]
  have hx:=hρ x
  generalize ρ x=d at hx ⊢
  generalize ρc x=v at hx ⊢
  cases d<;>first | exact True.intro | skip
  ·obtain⟨l,hl,rfl⟩:=hx.ptr_inv
   exact⟨_,w,φ,.inl rfl,ak8.refl hi hx⟩
  ·obtain⟨c,base,rfl,-⟩:=hx.iptr_inv
   exact⟨_,w,φ,.inl rfl,ak8.refl hi hx⟩
  ·obtain⟨f,va,vb,rfl⟩:∃f va vb,v=.func (.func f) va vb:=by cases hx;exact⟨_,_,_,rfl⟩
   exact⟨_,w,φ,.inl rfl,ak8.refl hi hx⟩
  ·obtain⟨t,va,rfl⟩:∃t va,v=.iface t va:=by cases hx;exact⟨_,_,rfl⟩
   exact⟨_,w,φ,.inl rfl,ak8.refl hi hx⟩
 case binOp op t x y yt=>
  simp only[]
  exact p5.toA (et2 hi op t x y (hρ x) (hρ y))
 case unOp op t x=>
  simp only[]
  exact p5.toA (eE1 hi op (hρ x))
 case convert s d x=>
  simp only[]
  exact p5.toA (el2 hi (hρ x))
 case makeFunc fn first caps=>
  cases fn<;>first | trivial | skip
  rename_i f
  simp only[]
  refine⟨_,w,φ,.inl (by simp[Instr.makeFunc];rfl),ak8.refl hi ?_⟩
  obtain⟨h1,h2⟩:=cJ9 hρ first.toList
  obtain⟨h3,h4⟩:=cJ9 hρ caps.toList
  exact .fn _ _ _ _ _ (by simp) (by simp) (fun i d v a b=>h2 i d v a (by simpa using b)) (fun i d v a b=>h4 i d v a (by simpa using b))
 case makeSlice t l c=>
  simp only[]
  have hl:=hρ l
  have hc:=hρ c
  split
  ·rename_i k a k' b h1 h2
   rw[h1] at hl
   rw[h2] at hc
   rw[hl.int_inv,hc.int_inv]
   refine p5.toA (do0 hi fun hs=> ?_)
   obtain rfl:l=c:=by
    cases l<;>cases c<;>simp[dD4] at hs
    rw[hs]
   rw[h1] at h2
   cases h2
   rfl
  ·trivial
 case slice t x lo hh mx=>
  simp only[]
  split
  ·rename_i l h' m h1 h2 h3
   exact p5.toA (dW7 hi (hρ x) (cE8 hρ h1) (cE8 hρ h2) (cE8 hρ h3))
  ·trivial
 case fieldAddr t x f=>
  simp only[]
  exact p5.toA (du6 hi (hρ x) f)
 case field t x f=>
  simp only[]
  exact p5.toA (p5.opt hi fun d hd=>dX3 (hρ x) hd)
 case indexAddr t x i=>
  simp only[]
  have hr:=hρ i
  split
  ·rename_i k n h1
   rw[h1] at hr
   rw[hr.int_inv]
   exact p5.toA (dr9 hi (hρ x) k n)
  ·trivial
 case index t x i=>
  simp only[]
  have hr:=hρ i
  split
  ·rename_i k n h1
   rw[h1] at hr
   rw[hr.int_inv]
   exact p5.toA (ea1 hi (hρ x) k n)
  ·trivial
 case extract x i=>
  simp only[]
  have hr:=hρ x
  split
  ·rename_i vs h1
   rw[h1] at hr
   obtain⟨us,hv,h2,h3⟩:=hr.tup_inv
   refine p5.toA (p5.opt hi fun d hd=> ?_)
   have hlt:=(List.getElem?_eq_some_iff.1 hd).1
   exact⟨us[i]'(by omega),by simp[Instr.extract,hv,show i<us.size by omega],h3 i d _ hd (by simp)⟩
  ·trivial
 case makeInterface t x=>
  simp only[]
  split
  ·trivial
  ·rename_i d hni hd
   have hr:=hρ x
   have key:∀d',ρ x=d' →aP0 P w Im φ σ (do pure (.value (←Instr.makeInterface t (ρc x)))) (.ok (.iface t d') σ):=fun d' hd' =>by
    rw[hd'] at hr
    refine⟨.iface t (ρc x),w,φ,.inl ?_,ak8.refl hi (.iface t _ _ hr)⟩
    cases d<;>first | exact absurd rfl (hni _) | simp[Instr.makeInterface,run_underlying hd]
   split
   ·trivial
   ·trivial
   ·exact key _ rfl
  ·trivial
 case call c=>
  simp only[]
  exact ek5 hi hρ c _
 all_goals trivial
end
section
variable {w : World} {Im Im' : Nat → Prop} {φ φ' : y0} {σ : i0}
theorem bu8 {f:D→Option D}:∀{ds ds' :List D},U5 f ds=some ds' →ds'.length=ds.length∧∀(i:Nat) (d d' :D),ds[i]? =some d→ds'[i]? =some d' →f d=some d'
 | [],ds',h=>by simp[U5] at h;subst h;exact⟨rfl,fun i d d' h=>by simp at h⟩
 | d::r,ds',h=>by
  simp only[U5] at h
  split at h
  ·rename_i e s h1 h2
   obtain rfl:=Option.some.inj h
   obtain⟨h3,h4⟩:=bu8 h2
   refine⟨by simp[h3],fun i d d' a b=> ?_⟩
   cases i with
   | zero=>simp at a b;subst a;subst b;exact h1
   | succ i=>exact h4 i d d' (by simpa using a) (by simpa using b)
  ·cases h
theorem be6 {f:D→Option D}:∀{rs rs' :List (List D)},aQ4 f rs=some rs' →rs'.length=rs.length∧∀(i:Nat) (r r' :List D),rs[i]? =some r→rs'[i]? =some r' →U5 f r=some r'
 | [],rs',h=>by simp[aQ4] at h;subst h;exact⟨rfl,fun i d d' h=>by simp at h⟩
 | d::r,rs',h=>by
  simp only[aQ4] at h
  split at h
  ·rename_i e s h1 h2
   obtain rfl:=Option.some.inj h
   obtain⟨h3,h4⟩:=be6 h2
   refine⟨by simp[h3],fun i d d' a b=> ?_⟩
   cases i with
   | zero=>simp at a b;subst a;subst b;exact h1
   | succ i=>exact h4 i d d' (by simpa using a) (by simpa using b)
  ·cases h
theorem ay4 {α β:Type}{l:List α}{m:List β} (h:l.length=m.length) {i:Nat}{y:β} (hy:m[i]? =some y):∃x,l[i]? =some x:=by
 have:=(List.getElem?_eq_some_iff.1 hy).1
 exact⟨l[i]'(by omega),by simp⟩
theorem bI7 {h:D→Option D} (hIm:∀c,Im c→Im' c)
  (hp:∀b i o d' v,i9 w Im φ (.ptr b i o) v→h (.ptr b i o)=some d' →i9 w Im' φ' d' v)
  (hm:∀b i len lo ex d' v,i9 w Im φ (.msl b i len lo ex) v→h (.msl b i len lo ex)=some d' →i9 w Im' φ' d' v):
  ∀(n:Nat) (d d' :D) (v:Value),i9 w Im φ d v→tr h n d=some d' →i9 w Im' φ' d' v
 | 0,_,_,_,_,hd=>by simp[tr] at hd
 | n+1,d,d',v,hr,hd=>by
  have IH:=bI7 hIm hp hm n
  have lst:∀(ds ds' :List D) (vs:Array Value),U5 (tr h n) ds=some ds' →ds.length=vs.size→(∀(i:Nat) (d:D) (v:Value),ds[i]? =some d→vs[i]? =some v→i9 w Im φ d v)→
    ds'.length=vs.size∧∀(i:Nat) (d:D) (v:Value),ds'[i]? =some d→vs[i]? =some v→i9 w Im' φ' d v:=fun ds ds' vs h1 h2 h3=>by
   obtain⟨h4,h5⟩:=bu8 h1
   refine⟨by omega,fun i d v a b=> ?_⟩
   obtain⟨d0,hd0⟩:=ay4 h4.symm a
   exact IH d0 d v (h3 i d0 v hd0 b) (h5 i d0 d hd0 a)
  cases hr with
  | undef v=>simp[tr] at hd;subst hd;exact .undef _
  | bool b=>simp[tr] at hd;subst hd;exact .bool _
  | int k n=>simp[tr] at hd;subst hd;exact .int _ _
  | str s l e=>simp[tr] at hd;subst hd;exact .str _ _ e
  | nilp=>simp[tr] at hd;subst hd;exact .nilp
  | ptr b i o l e=>exact hp _ _ _ _ _ (.ptr b i o l e) (by simpa[tr] using hd)
  | iptr sz rows i o c base vf e1 e2 e3 e4=>
   simp[tr] at hd;subst hd
   exact .iptr _ _ _ _ _ _ vf (fun h=>hIm _ (e1 h)) e2 e3 (fun i j r d a b=>(e4 i j r d a b).mono hIm (fun _ _=>rfl) (n7.refl _))
  | nilsl sz=>simp[tr] at hd;subst hd;exact .nilsl _
  | nilsl2 sz=>simp[tr] at hd;subst hd;exact .nilsl2 _
  | mnil b i ex l e=>exact hm _ _ _ _ _ _ _ (.mnil b i ex l e) (by simpa[tr] using hd)
  | sl sz rows c base cap vf a ha e1 e2 e3 e4 e5=>
   simp[tr] at hd;subst hd
   exact .sl _ _ _ _ _ vf a ha (fun h=>hIm _ (e1 h)) e2 e3 e4 (fun i j r d a b=>(e5 i j r d a b).mono hIm (fun _ _=>rfl) (n7.refl _))
  | msl b i len lo ex l cap a e1 e2 e3 e4 e5 e6 e7=>exact hm _ _ _ _ _ _ _ (.msl b i len lo ex l cap a e1 e2 e3 e4 e5 e6 e7) (by simpa[tr] using hd)
  | fn f first caps vf vc e1 e2 e3 e4=>
   simp only[tr] at hd
   split at hd
   ·rename_i a c h1 h2
    obtain rfl:=Option.some.inj hd
    obtain⟨g1,g2⟩:=lst _ _ _ h1 e1 e3
    obtain⟨g3,g4⟩:=lst _ _ _ h2 e2 e4
    exact .fn _ _ _ _ _ g1 g3 g2 g4
   ·cases hd
  | nilfn=>simp[tr] at hd;subst hd;exact .nilfn
  | agg cs vs e1 e2=>
   simp only[tr,Option.map_eq_some_iff] at hd
   obtain⟨cs',h1,rfl⟩:=hd
   obtain⟨g1,g2⟩:=lst _ _ _ h1 e1 e2
   exact .agg _ _ g1 g2
  | tup cs vs e1 e2=>
   simp only[tr,Option.map_eq_some_iff] at hd
   obtain⟨cs',h1,rfl⟩:=hd
   obtain⟨g1,g2⟩:=lst _ _ _ h1 e1 e2
   exact .tup _ _ g1 g2
  | iface t d v e=>
   simp only[tr,Option.map_eq_some_iff] at hd
   obtain⟨d2,h1,rfl⟩:=hd
   exact .iface _ _ _ (IH _ _ _ e h1)
  | nili=>simp[tr] at hd;subst hd;exact .nili
  | yld l=>simp[tr] at hd;subst hd;exact .yld l
  | arr cs vs h1 h2=>simp[tr] at hd;subst hd;exact .arr cs vs h1 fun i d v a b=>(h2 i d v a b).mono hIm (fun _ _=>rfl) (n7.refl _)
theorem aV5 {h:D→Option D} (hs:∀d d',B5 d=true→h d=some d' →B5 d' =true):∀(n:Nat) (d d' :D),B5 d=true→tr h n d=some d' →B5 d' =true
 | 0,_,_,_,hd=>by simp[tr] at hd
 | n+1,d,d',hsd,hd=>by
  cases d<;>simp[B5] at hsd
  case ptr=>exact hs _ _ rfl (by simpa[tr] using hd)
  case msl=>exact hs _ _ rfl (by simpa[tr] using hd)
  case fn=>
   simp only[tr] at hd
   split at hd
   ·obtain rfl:=Option.some.inj hd;rfl
   ·cases hd
  case iface=>
   simp only[tr,Option.map_eq_some_iff] at hd
   obtain⟨d2,h1,rfl⟩:=hd
   rfl
  all_goals (simp[tr] at hd;subst hd;rfl)
theorem eu7 {f:D→Option D} (hf:∀d d',B5 d=true→f d=some d' →B5 d' =true) {sz:Nat}{r r' :List D} (h:U5 f r=some r') (hr:aj9 sz r):aj9 sz r' :=by
 obtain⟨h1,h2⟩:=bu8 h
 refine⟨by rw[h1];exact hr.1,List.all_eq_true.2 fun d hd=> ?_⟩
 obtain⟨i,hi⟩:=List.getElem?_of_mem hd
 obtain⟨d0,hd0⟩:=ay4 h1.symm hi
 exact hf d0 d (List.all_eq_true.1 hr.2 d0 (List.mem_of_getElem? hd0)) (h2 i d0 d hd0 hi)
theorem er7 {f:D→Option D} (hf:∀d d',B5 d=true→f d=some d' →B5 d' =true) {sz:Nat}{rs rs' :List (List D)} (h:aQ4 f rs=some rs') (hr:∀r∈rs,aj9 sz r):∀r∈rs',aj9 sz r:=by
 obtain⟨h1,h2⟩:=be6 h
 intro r hm
 obtain⟨i,hi⟩:=List.getElem?_of_mem hm
 obtain⟨r0,hr0⟩:=ay4 h1.symm hi
 exact eu7 hf (h2 i r0 r hr0 hi) (hr r0 (List.mem_of_getElem? hr0))
theorem co3 {f:D→Option D}{ψ ψ' :y0} (hf:∀d d' v,i9 w Im ψ d v→f d=some d' →i9 w Im' ψ' d' v) (hs:∀d d',B5 d=true→f d=some d' →B5 d' =true)
  {c base sz:Nat}{rows rows' :List (List D)} (h:aQ4 f rows=some rows') (hr:P3 w Im ψ c base sz rows):P3 w Im' ψ' c base sz rows' :=by
 obtain⟨h1,h2⟩:=be6 h
 refine⟨er7 hs h hr.1,fun i j r d a b=> ?_⟩
 obtain⟨r0,hr0⟩:=ay4 h1.symm a
 obtain⟨h3,h4⟩:=bu8 (h2 i r0 r hr0 a)
 obtain⟨d0,hd0⟩:=ay4 h3.symm b
 obtain⟨v,hv,hrel⟩:=hr.2 i j r0 d0 hr0 hd0
 exact⟨v,hv,hf d0 d v hrel (h4 j d0 d hd0 b)⟩
theorem P3.choose {ψ:y0}{c base sz:Nat}{rows:List (List D)} (h:P3 w Im ψ c base sz rows):∃vf:Nat→Nat→Value,
  (∀(i j:Nat) (r:List D) (d:D),rows[i]? =some r→r[j]? =some d→w.cell? ⟨c,base+i*sz+j,none⟩=some (vf i j))∧
  (∀(i j:Nat) (r:List D) (d:D),rows[i]? =some r→r[j]? =some d→i9 w Im ψ d (vf i j)):=by
 refine⟨fun i j=>(w.cell? ⟨c,base+i*sz+j,none⟩).getD undef,fun i j r d a b=> ?_,fun i j r d a b=> ?_⟩
 ·obtain⟨v,hv,_⟩:=h.2 i j r d a b
  simp only[hv];rfl
 ·obtain⟨v,hv,hr⟩:=h.2 i j r d a b
  simp only[hv];exact hr
theorem P3.iptr {c base sz:Nat}{rows:List (List D)} (h:P3 w Im [] c base sz rows) (hc:rows≠ []→Im c) (i o:Nat):i9 w Im φ (.iptr sz rows i o) (.pointer (some ⟨c,base+i*sz+o,none⟩)):=by
 obtain⟨vf,h1,h2⟩:=h.choose
 exact .iptr _ _ _ _ _ _ vf hc h.1 h1 h2
theorem P3.sl {c base sz:Nat}{rows:List (List D)} (h:P3 w Im [] c base sz rows) (hc:rows≠ []→Im c) {cap:Nat} (hcap:rows.length≤cap):i9 w Im φ (.sl false sz rows) (.slice (some ⟨c,base,none⟩) rows.length cap):=by
 obtain⟨vf,h1,h2⟩:=h.choose
 exact .sl _ _ _ _ _ vf _ (fun _=>rfl) hc h.1 hcap h1 h2
theorem P3.im {ψ:y0}{c base sz:Nat}{rows:List (List D)} (h:P3 w Im ψ c base sz rows) (hIm:∀c,Im c→Im' c):P3 w Im' ψ c base sz rows:=
 ⟨h.1,fun i j r d a b=>let ⟨v,hv,hr⟩:=h.2 i j r d a b;⟨v,hv,hr.mono hIm (fun _ _=>rfl) (n7.refl _)⟩⟩
theorem aT1 (ρ:Nat→Option Nat):∀d d',B5 d=true→Y9 ρ d=some d' →B5 d' =true:=fun d d' h1 h2=>by
 cases d<;>simp[B5] at h1<;>simp only[Y9,Option.map_eq_some_iff,Option.some.injEq] at h2
 all_goals first | (obtain⟨c,_,rfl⟩:=h2;rfl) | (subst h2;rfl)
theorem aM6 {ρ:Nat→Option Nat} (hIm:∀c,Im c→Im' c) (hρ:∀(b c:Nat) (l:Loc),ρ b=some c→φ[b]? =some l→φ'[c]? =some l) (n:Nat) (d d' :D) (v:Value) (hr:i9 w Im φ d v) (hd:tr (Y9 ρ) n d=some d'):i9 w Im' φ' d' v:=by
 refine bI7 hIm (fun b i o d' v hr hd=> ?_) (fun b i len lo ex d' v hr hd=> ?_) n d d' v hr hd
 ·simp only[Y9,Option.map_eq_some_iff] at hd
  obtain⟨c,hc,rfl⟩:=hd
  obtain⟨l,hl,rfl⟩:=hr.ptr_inv
  exact .ptr _ _ _ _ (hρ _ _ _ hc hl)
 ·simp only[Y9,Option.map_eq_some_iff] at hd
  obtain⟨c,hc,rfl⟩:=hd
  obtain⟨l,hl,⟨rfl,rfl,rfl⟩ | ⟨cap,a,rfl,h1,h2,h3,h4,h5,h6⟩⟩:=hr.msl_inv
  ·exact .mnil _ _ _ _ (hρ _ _ _ hc hl)
  exact .msl _ _ _ _ _ _ _ _ (hρ _ _ _ hc hl) h1 h2 h3 h4 h5 h6
theorem bv4 (n:Nat) (d d' :D) (v:Value) (hr:i9 w Im φ d v) (hd:tr bD3 n d=some d'):i9 w Im [] d' v:=
 bI7 (fun _ h=>h) (fun b i o d' v hr hd=>by simp[bD3] at hd) (fun b i len lo ex d' v hr hd=>by simp[bD3] at hd) n d d' v hr hd
theorem dk9 {m:Nat}:∀(k:Nat) (st:Bool) (d d' :D),B5 d=true→ao7 σ m st k d=some d' →B5 d' =true:=fun k st d d' h1 h2=>by
 cases k with
 | zero=>simp[ao7] at h2
 | succ k=>
  cases d<;>simp only[ao7,Bool.cond_eq_ite] at h2<;>try (cases h2;done)
  all_goals
   (repeat' (first | split at h2))
   all_goals first | (cases h2;done) | (obtain rfl:=Option.some.inj h2;rfl)
theorem az0 (hi:Inv w Im φ σ) {m:Nat} (hIm:∀c,Im c→Im' c) (hown:∀(b:Nat) (B:G7) (l:Loc),m≤b→sget σ b=some B→φ[b]? =some l→0<l.size→Im' l.blk):
  ∀(n:Nat) (strict:Bool) (φ' :y0),(strict=false→∀(b:Nat) (l:Loc),b<m→φ[b]? =some l→φ'[b]? =some l)→∀(d d' :D) (v:Value),(∀b i o,d=.ptr b i o→True)→i9 w Im φ d v→ao7 σ m strict n d=some d' →i9 w Im' φ' d' v
 | 0,_,_,_,_,_,_,_,_,hd=>by simp[ao7] at hd
 | n+1,strict,φ',hφ',d,d',v,_,hr,hd=>by
  have IH:=az0 hi hIm hown n true [] (fun h=>by cases h)
  have htr:∀(d d' :D) (v:Value),i9 w Im φ d v→tr (ao7 σ m true n) q9 d=some d' →i9 w Im' [] d' v:=fun d d' v h1 h2=>
   bI7 hIm (fun b i o d' v a b' =>IH _ d' v (fun _ _ _ _=>trivial) a b') (fun b i len lo ex d' v a b' =>IH _ d' v (fun _ _ _ _=>trivial) a b') q9 d d' v h1 h2
  have hscal:=fun k st=>dk9 (σ:=σ) (m:=m) k st
  have hts:∀d d',B5 d=true→tr (ao7 σ m true n) q9 d=some d' →B5 d' =true:=aV5 (hscal n true) q9
  cases d with
  | ptr b i o=>
   obtain⟨l,hl,rfl⟩:=hr.ptr_inv
   simp only[ao7,Bool.cond_eq_ite] at hd
   split at hd
   ·rename_i hlt
    split at hd
    ·cases hd
    ·rename_i hst
     obtain rfl:=Option.some.inj hd
     exact .ptr _ _ _ _ (hφ' (by simpa using hst) b l (Nat.lt_of_succ_le (Nat.le_of_ble_eq_true hlt)) hl)
   ·rename_i hlt
    have hge:m≤b:=by
     rcases Nat.lt_or_ge b m with h | h
     ·exact absurd (Nat.ble_eq_true_of_le h) hlt
     ·exact h
    split at hd
    ·rename_i B hB
     obtain⟨l',hl',hk⟩:=hi.loc hB
     obtain rfl:=Option.some.inj (hl.symm.trans hl')
     have him:=hown b B l hge hB hl
     split at hd
     ·rename_i hdp
      split at hd
      ·rename_i rows hrows
       obtain rfl:=Option.some.inj hd
       rw[hk.sz]
       exact(co3 htr hts hrows hk.rowsAt').iptr (fun hne=>him (hk.size (fun e=>hne (List.eq_nil_of_length_eq_zero (by rw[(be6 hrows).1,e];rfl))))) i o
      ·cases hd
     ·rename_i hdp
      obtain rfl:=Option.some.inj hd
      have h5:=hk.rowsAt
      simp only[hdp] at h5
      rw[hk.sz]
      exact(h5.im hIm).iptr (fun hne=>him (hk.size hne)) i o
    ·cases hd
  | msl b i len lo ex=>
   obtain⟨l,hl,hv⟩:=hr.msl_inv
   simp only[ao7,Bool.cond_eq_ite] at hd
   split at hd
   ·rename_i hlt
    split at hd
    ·cases hd
    ·rename_i hst
     obtain rfl:=Option.some.inj hd
     rcases hv with⟨rfl,rfl,rfl⟩ | ⟨cap,a,rfl,h1,h2,h3,h4,h5,h6⟩
     ·exact .mnil _ _ _ _ (hφ' (by simpa using hst) b l (Nat.lt_of_succ_le (Nat.le_of_ble_eq_true hlt)) hl)
     exact .msl _ _ _ _ _ _ _ _ (hφ' (by simpa using hst) b l (Nat.lt_of_succ_le (Nat.le_of_ble_eq_true hlt)) hl) h1 h2 h3 h4 h5 h6
   ·rename_i hlt
    have hge:m≤b:=by
     rcases Nat.lt_or_ge b m with h | h
     ·exact absurd (Nat.ble_eq_true_of_le h) hlt
     ·exact h
    split at hd
    ·rename_i B hB
     obtain⟨l',hl',hk⟩:=hi.loc hB
     obtain rfl:=Option.some.inj (hl.symm.trans hl')
     have him:=hown b B l hge hB hl
     split at hd
     ·rename_i hble
      have hble' :=Nat.le_of_ble_eq_true hble
      have hlen:((B.rows.drop i).take len).length=len:=by simp;omega
      have key:∀rows,rows.length=len→P3 w Im' [] l.blk (l.base+i*B.sz) B.sz rows→i9 w Im' φ' (.sl false B.sz rows) v:=fun rows q1 q2=>by
       rcases hv with⟨rfl,rfl,rfl⟩ | ⟨cap,a,rfl,h1,h2,h3,h4,h5,h6⟩
       ·have:rows= []:=List.eq_nil_of_length_eq_zero q1
        subst this
        exact .nilsl2 _
       by_cases hcap:cap=0
       ·have:rows= []:=List.eq_nil_of_length_eq_zero (by omega)
        subst this
        have:len=0:=by simpa using q1.symm
        subst this
        exact .sl B.sz [] 0 0 cap (fun _ _=>undef) a (by simp) (by simp) (by simp) (by simp) (by simp) (by simp)
       ·rw[h6 hcap,hk.sz,←q1]
        exact q2.sl (fun hne=>him (hk.size (fun e=>hne (List.eq_nil_of_length_eq_zero (by rw[q1,←hlen,e];simp))))) (by omega)
      split at hd
      ·rename_i hdp
       split at hd
       ·rename_i rows hrows
        obtain rfl:=Option.some.inj hd
        exact key rows (by rw[(be6 hrows).1,hlen]) (co3 htr hts hrows (hk.rowsAt'.sub i len))
       ·cases hd
      ·rename_i hdp
       obtain rfl:=Option.some.inj hd
       have h7:=(hk.rowsAt).sub i len
       simp only[hdp] at h7
       exact key _ hlen (h7.im hIm)
     ·cases hd
    ·cases hd
  | _=>simp[ao7] at hd
end
section
variable {w : World} {Im Im' : Nat → Prop} {φ φ' : y0} {σ σ' : i0}
theorem aG2 {f:D→Option D} (hIm:∀c,Im c→Im' c) (hf:∀d d' v,i9 w Im φ d v→f d=some d' →i9 w Im' φ' d' v) (hs:∀d d',B5 d=true→f d=some d' →B5 d' =true)
  {B B' :G7}{l:Loc} (h:bl5 f (some B)=some (some B')) (hk:ao9 w Im φ B l):ao9 w Im' φ' B' l:=by
 simp only[bl5] at h
 split at h
 ·rename_i hd
  simp only[Option.map_eq_some_iff] at h
  obtain⟨rows,hrows,h1⟩:=h
  obtain rfl:=Option.some.inj h1
  have hr:=co3 hf hs hrows hk.rowsAt'
  exact⟨hk.pos,hk.sz,hr.1,by simp only[(be6 hrows).1];exact hk.fit,hk.mem,hk.lt,hk.fz,fun i j r d a b=>by simpa using hr.2 i j r d a b⟩
 ·rename_i hd
  obtain rfl:=Option.some.inj (Option.some.inj h)
  refine⟨hk.pos,hk.sz,hk.len,hk.fit,hk.mem,hk.lt,hk.fz,fun i j r d a b=> ?_⟩
  obtain⟨v,hv,hr⟩:=hk.rel i j r d a b
  refine⟨v,hv,?_⟩
  have hd' :B.deep=false:=by simpa using hd
  simp only[hd',Bool.false_eq_true,if_false] at hr ⊢
  exact hr.mono hIm (fun _ _=>rfl) (n7.refl _)
theorem S0 {f:D→Option D}:∀{σ σ' :i0},F5 f σ=some σ' →σ'.length=σ.length∧∀(i:Nat) (B' :G7),sget σ' i=some B' →∃B,sget σ i=some B∧bl5 f (some B)=some (some B')
 | [],σ',h=>by simp[F5] at h;subst h;exact⟨rfl,fun i B' h=>by simp[sget] at h⟩
 | b::r,σ',h=>by
  simp only[F5] at h
  split at h
  ·rename_i c s h1 h2
   obtain rfl:=Option.some.inj h
   obtain⟨h3,h4⟩:=S0 h2
   refine⟨by simp[h3],fun i B' a=> ?_⟩
   rw[R5] at a
   cases i with
   | zero=>
    simp at a
    subst a
    cases b with
    | none=>simp[bl5] at h1
    | some B=>exact⟨B,rfl,h1⟩
   | succ i=>
    obtain⟨B,hB,h5⟩:=h4 i B' (by rw[R5];simpa using a)
    exact⟨B,by rw[R5] at hB ⊢;simpa using hB,h5⟩
  ·cases h
theorem cB2:∀{ids:List Nat},bl7 ids=true→∀(i j b:Nat),ids[i]? =some b→ids[j]? =some b→i=j
 | [],_,i,j,b,h,_=>by simp at h
 | x::r,h,i,j,b,h1,h2=>by
  simp only[bl7,Bool.and_eq_true,Bool.not_eq_true'] at h
  have hx:x∉r:=by simpa using h.1
  cases i with
  | zero=>
   cases j with
   | zero=>rfl
   | succ j=>
    simp at h1 h2
    subst h1
    exact absurd (List.mem_of_getElem? h2) hx
  | succ i=>
   cases j with
   | zero=>
    simp at h1 h2
    subst h2
    exact absurd (List.mem_of_getElem? h1) hx
   | succ j=>rw[cB2 h.2 i j b (by simpa using h1) (by simpa using h2)]
theorem cT6:∀{ids:List Nat}{b k c:Nat},bg8 ids b k=some c→k≤c∧ids[c-k]? =some b
 | [],_,_,_,h=>by simp[bg8] at h
 | x::r,b,k,c,h=>by
  simp only[bg8,Bool.cond_eq_ite] at h
  split at h
  ·rename_i hb
   obtain rfl:=Option.some.inj h
   exact⟨Nat.le_refl _,by simp;exact Nat.eq_of_beq_eq_true hb⟩
  ·obtain⟨h1,h2⟩:=cT6 h
   exact⟨by omega,by rw[show c-k=(c-(k+1))+1 by omega];simpa using h2⟩
def bb3 (φ:y0) (b:Nat):Loc:=(φ[b]?).getD ⟨0,0,0,0⟩
def O7 (φ:y0) (ids:List Nat):y0:=ids.map (bb3 φ)
theorem aG4 {ids:List Nat}{i b:Nat} (h:ids[i]? =some b):(O7 φ ids)[i]? =some (bb3 φ b):=by simp[O7,h]
theorem cw3 {ids:List Nat}:∀(b c:Nat) (l:Loc),bg8 ids b 0=some c→φ[b]? =some l→(O7 φ ids)[c]? =some l:=fun b c l h1 h2=>by
 obtain⟨_,h3⟩:=cT6 h1
 rw[Nat.sub_zero] at h3
 rw[aG4 h3,bb3,h2];rfl
theorem bR9 {ids:List Nat}{i:Nat}{B:G7} (h:sget (F0 σ ids) i=some B):∃b,ids[i]? =some b∧sget σ b=some B:=by
 rw[R5] at h
 simp only[F0,List.getElem?_map,Option.map_eq_some_iff] at h
 obtain⟨b,hb,h1⟩:=h
 refine⟨b,hb,?_⟩
 rw[R5]
 split at h1
 ·rename_i B' h2;rw[h2,h1]
 ·cases h1
theorem Inv.pick (hi:Inv w Im φ σ) {ids:List Nat} (hnd:bl7 ids=true) {f:D→Option D} (hf:f=tr (Y9 fun b=>bg8 ids b 0) q9) (h:F5 f (F0 σ ids)=some σ'):
  Inv w Im (O7 φ ids) σ' ∧∀c,Own (O7 φ ids) σ' c→Own φ σ c:=by
 subst hf
 obtain⟨h1,h2⟩:=S0 h
 have hget:∀i B' l,sget σ' i=some B' →(O7 φ ids)[i]? =some l→∃b B,ids[i]? =some b∧sget σ b=some B∧φ[b]? =some l∧ao9 w Im (O7 φ ids) B' l:=fun i B' l h3 h4=>by
  obtain⟨B,hB,h5⟩:=h2 i B' h3
  obtain⟨b,hb,hB'⟩:=bR9 hB
  obtain⟨l',hl',hk⟩:=hi.loc hB'
  rw[aG4 hb,bb3,hl'] at h4
  obtain rfl:l' =l:=by simpa using h4
  exact⟨b,B,hb,hB',hl',aG2 (fun _ h=>h) (fun d d' v a b=>aM6 (fun _ h=>h) cw3 q9 d d' v a b) (aV5 (aT1 _) q9) h5 hk⟩
 have hown:∀c,Own (O7 φ ids) σ' c→Own φ σ c:=by
  rintro c ⟨i,B',l,h3,h4,rfl,hp⟩
  obtain⟨b,B,_,hB,hl,_⟩:=hget i B' l h4 h3
  exact⟨b,B,l,hl,hB,rfl,hp⟩
 refine⟨⟨by rw[h1];simp[O7,F0],fun i B' l h3 h4=> ?_,fun i j B1 B2 l1 l2 hne h3 h4 h5 h6 p1 p2=> ?_,fun c hc ho=>hi.sep c hc (hown c ho),hi.im⟩,hown⟩
 ·obtain⟨_,_,_,_,_,hk⟩:=hget i B' l h3 h4
  exact hk
 ·obtain⟨b1,C1,e1,e2,e3,_⟩:=hget i B1 l1 h5 h3
  obtain⟨b2,C2,g1,g2,g3,_⟩:=hget j B2 l2 h6 h4
  refine hi.inj b1 b2 C1 C2 l1 l2 (fun e=> ?_) e3 g3 e2 g2 p1 p2
  subst e
  exact hne (cB2 hnd i j b1 e1 g1)
theorem bN7 {f:D→Option D}:∀{fr fr' :Fr},cg7 f fr=some fr' →∀t,(v8 fr' t=.undef∧v8 fr t=.undef)∨f (v8 fr t)=some (v8 fr' t)
 | [],fr',h,t=>by simp[cg7] at h;subst h;exact .inl ⟨rfl,rfl⟩
 | x::r,fr',h,t=>by
  simp only[cg7] at h
  split at h
  ·rename_i d s h1 h2
   obtain rfl:=Option.some.inj h
   simp only[v8,Bool.cond_eq_ite]
   split
   ·exact .inr h1
   ·exact bN7 h2 t
  ·cases h
theorem cd4 {m:Nat}{ids:List Nat} (h:cT7 m ids=true):bl7 ids=true∧∀b,b<m→ids[b]? =some b:=by
 simp only[cT7,Bool.and_eq_true,beq_iff_eq] at h
 refine⟨h.2,fun b hb=> ?_⟩
 have:=congrArg (fun l=>l[b]?) h.1
 simp only[List.getElem?_take,if_pos hb] at this
 rw[this];simp[hb]
theorem bF9 (hi:Inv w Im φ σ) {m:Nat}{fr fr' :Fr} (hm:m≤φ.length) (h:bG8 m fr σ=some (fr',σ')) {a:Nat→Value} (hfr:∀t,i9 w Im φ (v8 fr t) (a t)):
  ∃φ',Inv w Im φ' σ' ∧Tr m w Im φ σ w Im φ' σ' ∧∀t,i9 w Im φ' (v8 fr' t) (a t):=by
 unfold bG8 at h
 simp only at h
 split at h
 ·rename_i fr2 s h1 h2 h3
  simp only[Option.some.injEq,Prod.mk.injEq] at h
  obtain⟨rfl,rfl⟩:=h
  obtain⟨hnd,hfirst⟩:=cd4 h1
  obtain⟨i1,i2⟩:=hi.pick hnd rfl h3
  refine⟨_,i1,⟨⟨Nat.le_refl _,fun _ _ _=>rfl,⟨rfl,rfl,rfl⟩⟩,fun c hc=> .inl (i2 c hc),fun b hb=> ?_,fun _ h=>h,fun _ h=> .inl h⟩,fun t=> ?_⟩
  ·rw[aG4 (hfirst b hb),bb3]
   have:b<φ.length:=by omega
   simp[this]
  ·rcases bN7 h2 t with⟨g1,g2⟩ | g
   ·rw[g1];exact .undef _
   ·exact aM6 (fun _ h=>h) cw3 q9 _ _ _ (hfr t) g
 ·cases h
theorem dY9 {m b:Nat}:sget (σ.take m) b=if b<m then sget σ b else none:=by
 unfold sget
 rw[List.getElem?_take]
 split<;>simp_all
theorem ev0 (hi:Inv w Im φ σ) {m:Nat} (hm:m≤φ.length) {d d' :D}{v:Value} (hd:i9 w Im φ d v) (h1:frz σ m d=some d') (h2:F5 (frz σ m) (σ.take m)=some σ'):
  ∃φ' Im',Inv w Im' φ' σ' ∧Tr m w Im φ σ w Im' φ' σ' ∧i9 w Im' φ' d' v:=by
 let Im2:Nat→Prop:=fun c=>Im c∨∃b B l,m≤b∧sget σ b=some B∧φ[b]? =some l∧l.blk=c∧0<l.size
 have hIm:∀c,Im c→Im2 c:=fun c h=> .inl h
 have hown:∀(b:Nat) (B:G7) (l:Loc),m≤b→sget σ b=some B→φ[b]? =some l→0<l.size→Im2 l.blk:=fun b B l a1 a2 a3 hp=> .inr ⟨b,B,l,a1,a2,a3,rfl,hp⟩
 have htake:∀(b:Nat) (l:Loc),b<m→φ[b]? =some l→(φ.take m)[b]? =some l:=fun b l a1 a2=>by rw[List.getElem?_take,if_pos a1];exact a2
 have hfr:∀d d' v,i9 w Im φ d v→frz σ m d=some d' →i9 w Im2 (φ.take m) d' v:=fun d d' v a b=>
  bI7 hIm (fun b i o d' v a b' =>az0 hi hIm hown 6 false _ (fun _=>htake) _ d' v (fun _ _ _ _=>trivial) a b') (fun b i len lo ex d' v a b' =>az0 hi hIm hown 6 false _ (fun _=>htake) _ d' v (fun _ _ _ _=>trivial) a b') q9 d d' v a b
 have hsc:∀d d',B5 d=true→frz σ m d=some d' →B5 d' =true:=aV5 (fun d d' a b=>dk9 6 false d d' a b) q9
 obtain⟨g1,g2⟩:=S0 h2
 have hget:∀i B' l,sget σ' i=some B' →(φ.take m)[i]? =some l→i<m∧∃B,sget σ i=some B∧φ[i]? =some l∧ao9 w Im2 (φ.take m) B' l:=fun i B' l a b=>by
  obtain⟨B,hB,h5⟩:=g2 i B' a
  rw[dY9] at hB
  split at hB
  ·rename_i him
   rw[List.getElem?_take,if_pos him] at b
   exact⟨him,B,hB,b,aG2 hIm hfr hsc h5 (hi.blk i B l hB b)⟩
  ·cases hB
 have hown2:∀c,Own (φ.take m) σ' c→Own φ σ c:=by
  rintro c ⟨i,B',l,a,b,rfl,hp⟩
  obtain⟨_,B,hB,hl,_⟩:=hget i B' l b a
  exact⟨i,B,l,hl,hB,rfl,hp⟩
 refine⟨φ.take m,Im2,⟨?_,fun i B' l a b=>(hget i B' l a b).2.choose_spec.2.2,fun i j B1 B2 l1 l2 hne a1 a2 a3 a4 p1 p2=> ?_,fun c hc ho=> ?_,fun c hc=> ?_⟩,⟨⟨Nat.le_refl _,fun _ _ _=>rfl,⟨rfl,rfl,rfl⟩⟩,fun c hc=> .inl (hown2 c hc),fun b hb=>by rw[List.getElem?_take,if_pos hb],hIm,fun c hc=> ?_⟩,hfr d d' v hd h1⟩
 ·rw[g1,List.length_take,List.length_take,hi.len]
 ·obtain⟨_,C1,e1,e2,_⟩:=hget i B1 l1 a3 a1
  obtain⟨_,C2,f1,f2,_⟩:=hget j B2 l2 a4 a2
  exact hi.inj i j C1 C2 l1 l2 hne e2 f2 e1 f1 p1 p2
 ·rcases hc with hc | ⟨b,B,l,a1,a2,a3,a4,p1⟩
  ·exact hi.sep c hc (hown2 c ho)
  ·obtain⟨i,B',l',b1,b2,b3,p2⟩:=ho
   obtain⟨him,B2,c1,c2,_⟩:=hget i B' l' b2 b1
   exact hi.inj b i B B2 l l' (by omega) a3 c2 a2 c1 p1 p2 (by rw[a4,b3])
 ·rcases hc with hc | ⟨b,B,l,a1,a2,a3,rfl,hp⟩
  ·exact hi.im c hc
  ·exact(hi.blk b B l a2 a3).lt hp
 ·rcases hc with hc | ⟨b,B,l,a1,a2,a3,rfl,hp⟩
  ·exact .inl hc
  ·exact .inr (.inl ⟨b,B,l,a3,a2,rfl,hp⟩)
end
def GlOk (E:L6) (w:World) (Im:Nat→Prop):Prop:=∀g,i9 w Im [] (E.gl g) (.pointer (some ⟨g,0,none⟩))
theorem GlOk.mono {E:L6}{w w' :World}{Im Im' :Nat→Prop} (h:GlOk E w Im) (hIm:∀c,Im c→Im' c) (hw:∀c,Im c→w'.heap[c]? =w.heap[c]?):GlOk E w' Im' :=fun g=>(h g).mono hIm hw (n7.refl _)
def i7 (E:L6) (f:FuncId) (args:List D) (σ:i0) (Q:D→i0→Prop):Prop:=
 ∀(w:World) (Im:Nat→Prop) (φ:y0) (vs:Array Value),GlOk E w Im→Inv w Im φ σ→K4 w Im φ args vs.toList→
  Calls E.P f vs w fun e w' =>∃v d σ' φ' Im',e=.returned v∧Tr σ.length w Im φ σ w' Im' φ' σ' ∧Inv w' Im' φ' σ' ∧i9 w' Im' φ' d v∧Q d σ'
def bU6 (E:L6) (f:FuncId) (args:List D) (d:D):Prop:=i7 E f args [] fun d' s' =>d' =d∧s' = []
theorem i7.mono {E:L6}{f:FuncId}{args:List D}{σ:i0}{Q Q' :D→i0→Prop} (h:i7 E f args σ Q) (hq:∀d s,Q d s→Q' d s):i7 E f args σ Q' :=
 fun w Im φ vs h0 h1 h2=>(h w Im φ vs h0 h1 h2).mono fun e w' ⟨v,d,σ',φ',Im',a,b,c,d',e'⟩=>⟨v,d,σ',φ',Im',a,b,c,d',hq _ _ e'⟩
/-! ### two sides of a range over a function -/
/-- The other side's blocks, X, none of them one that nobody writes to. -/
structure XOk (w : World) (Im X : Nat → Prop) : Prop where
  lt : ∀ c, X c → c < w.heap.size
  im : ∀ c, X c → ¬ Im c
/-- What an iterator's run does between two calls of yield, seen from the loop: blocks X are left alone, and all of those ahead of n0 but G. -/
structure eG2 (n0 : Nat) (G X : Nat → Prop) (w : World) (Im : Nat → Prop) (w' : World) (Im' : Nat → Prop) : Prop where
  size : w.heap.size ≤ w'.heap.size
  same : ∀ c, c < w.heap.size → (X c ∨ Im c ∨ (c < n0 ∧ ¬ G c)) → w'.heap[c]? = w.heap[c]?
  io : Io w w'
  im : ∀ c, Im c → Im' c
  imN : ∀ c, Im' c → Im c ∨ G c ∨ n0 ≤ c
  imX : ∀ c, Im' c → ¬ X c
  imS : ∀ c, Im' c → c < w'.heap.size
/-- What a round does, seen from the iterator: it turns its own blocks alone. -/
structure dv8 (X : Nat → Prop) (w : World) (Im : Nat → Prop) (w' : World) (Im' X' : Nat → Prop) : Prop where
  size : w.heap.size ≤ w'.heap.size
  same : ∀ c, c < w.heap.size → ¬ X c → w'.heap[c]? = w.heap[c]?
  io : Io w w'
  im : ∀ c, Im c → Im' c
  imN : ∀ c, Im' c → Im c ∨ X c ∨ w.heap.size ≤ c
  imS : ∀ c, Im' c → c < w'.heap.size
  xN : ∀ c, X' c → X c ∨ w.heap.size ≤ c
  ok : XOk w' Im' X'
def YieldOk (P:Program) (l:Nat) (vs:Array Value) (w:World) (R:Ending→World→Prop):Prop:=
 ∃fn tmps assign body,(Instr.yield l vs).run P w=.ok (.round l fn tmps assign body) w∧RoundIn Fence.wide 0 P l fn tmps assign body w R
def U7 (ln s:i0):Prop:=s.take ln.length=ln
def ca2 (ln:i0):Prop:=F5 (tr (Y9 (idH ln.length)) q9) ln=some ln
/-- The loop's side, as an iterator knows it: J, at what is still to be told; the blocks ln, at φ0, are lent to it in each round. -/
structure cv7 (P : Program) (l : Nat) (J : Option (List (List D)) → World → (Nat → Prop) → (Nat → Prop) → Prop) (n0 : Nat) (G : Nat → Prop) (φ0 : y0) (ln : i0) : Prop where
  stay : ∀ Y w Im X w' Im', J Y w Im X → XOk w Im X → eG2 n0 G X w Im w' Im' → J Y w' Im' X
  yields : ∀ (y : List D) (Y : List (List D)) (w : World) (Im X : Nat → Prop) (vs : Array Value), J (some (y :: Y)) w Im X → XOk w Im X → (∀ c, Im c → c < w.heap.size) → K4 w Im [] y vs.toList →
    Inv w Im φ0 ln → (∀ c, X c → ¬ Own φ0 ln c) →
    YieldOk P l vs w fun e w' => ∃ b Im' X', e = .returned (.bool b) ∧ J (if b = true then some Y else none) w' Im' X' ∧ dv8 (fun c => X c ∨ Own φ0 ln c) w Im w' Im' X' ∧ Inv w' Im' φ0 ln ∧ (∀ c, X' c → ¬ Own φ0 ln c)
def as3 (E:L6) (g:FuncId) (caps:List D) (σ ln:i0) (Y:List (List D)):Prop:=
 ∀(w:World) (Im:Nat→Prop) (φ:y0) (vs:Array Value) (l:Nat) (J:Option (List (List D))→World→(Nat→Prop)→(Nat→Prop)→Prop) (n0:Nat) (G X:Nat→Prop),GlOk E w Im→Inv w Im φ σ→K4 w Im φ caps vs.toList→
  cv7 E.P l J n0 G (φ.take ln.length) ln→n0≤w.heap.size→(∀c,Own φ σ c→G c)→XOk w Im X→(∀c,X c→¬Own φ σ c)→J (some Y) w Im X→
  Calls E.P g (#[.func (.yield l) #[] #[]]++vs) w fun e w' =>(∃v,e=.returned v)∧∃Im' X',(J (some []) w' Im' X' ∨J none w' Im' X')∧Inv w' Im' (φ.take ln.length) ln∧(∀c,X' c→¬Own (φ.take ln.length) ln c)
def An (E:L6) (C:Cx) (w:World) (Im:Nat→Prop) (φ:y0) (σ:i0):Prop:=
 C.it=true→(n7 C.lp0 φ∧C.lp0.length=C.ln.length∧C.lp0.length≤C.m∧ca2 C.ln)∧
  ∃(n0:Nat) (G X:Nat→Prop),cv7 E.P C.lp C.J n0 G C.lp0 C.ln∧n0≤w.heap.size∧(∀c,Own φ σ c→G c∨n0≤c)∧XOk w Im X∧(∀c,X c→¬Own φ σ c)∧C.J C.Y w Im X
def eC4 (C:Cx) (w:World) (Im:Nat→Prop) (φ:y0) (σ:i0):Prop:=
 (n7 C.lp0 φ∧C.lp0.length=C.ln.length∧ca2 C.ln)∧∃X:Nat→Prop,(C.J (some []) w Im X∨C.J none w Im X)∧(∀c,X c→¬Own φ σ c)
def mark (b:Nat):Deferred:={ target:=.collected b,args:= #[] }
structure dv4 (C:Cx) (lo:Nat) (w:World) (Im:Nat→Prop) (φ:y0) (σ:i0) (ds:List Deferred) (Ds:List Nat):Prop where
 eq:ds=Ds.map mark
 none:C.it=true→Ds= []
 nodup:Ds.Nodup
 ok:∀b∈Ds,lo≤b∧b<w.heap.size∧w.heap[b]? =some (.deferred (some []))∧¬Im b∧¬Own φ σ b
structure cK6 (E:L6) (C:Cx) (lo:Nat) (w:World) (Im:Nat→Prop) (φ:y0) (σ:i0) (ds:List Deferred):Prop where
 low:lo≤w.heap.size
 gl:GlOk E w Im
 an:An E C w Im φ σ
 mks:∃Ds,dv4 C lo w Im φ σ ds Ds
theorem Tr.imX {k:Nat}{w w' :World}{Im Im' :Nat→Prop}{φ φ' :y0}{σ σ' :i0} (ht:Tr k w Im φ σ w' Im' φ' σ') {X:Nat→Prop} (hx:∀c,X c→c<w.heap.size∧¬Im c∧¬Own φ σ c):
  (∀c,X c→¬Im' c∧¬Own φ' σ' c):=fun c hc=>by
 obtain⟨h1,h2,h3⟩:=hx c hc
 refine⟨fun h=> ?_,fun h=> ?_⟩
 ·rcases ht.imN c h with h | h | h
  ·exact h2 h
  ·exact h3 h
  ·omega
 ·rcases ht.own c h with h | h
  ·exact h3 h
  ·omega
theorem An.tr {E:L6}{C:Cx}{k:Nat}{w w' :World}{Im Im' :Nat→Prop}{φ φ' :y0}{σ σ' :i0} (h:An E C w Im φ σ) (hk:C.m≤k) (hi:Inv w Im φ σ) (ht:Tr k w Im φ σ w' Im' φ' σ') (hi' :Inv w' Im' φ' σ'):An E C w' Im' φ' σ' :=fun hit=>by
 obtain⟨⟨q1,q2,q3,q4⟩,n0,G,X,h1,h2,h3,h4,h5,h6⟩:=h hit
 refine⟨⟨fun b l hb=> ?_,q2,q3,q4⟩,?_⟩
 ·have:=(List.getElem?_eq_some_iff.1 hb).1
  rw[ht.pre b (by omega)];exact q1 b l hb
 have hx:=ht.imX (X:=X) fun c hc=>⟨h4.lt c hc,h4.im c hc,h5 c hc⟩
 refine⟨n0,G,X,h1,Nat.le_trans h2 ht.ext.size,fun c hc=> ?_,⟨fun c hc=>Nat.lt_of_lt_of_le (h4.lt c hc) ht.ext.size,fun c hc=>(hx c hc).1⟩,fun c hc=>(hx c hc).2,h1.stay _ _ _ _ _ _ h6 h4 ⟨ht.ext.size,fun c hc ho=> ?_,ht.ext.io,ht.im,fun c hc=> ?_,fun c hc hX=>(hx c hX).1 hc,hi'.im⟩⟩
 ·rcases ht.own c hc with h | h
  ·exact h3 c h
  ·exact .inr (Nat.le_trans h2 h)
 ·refine ht.ext.same c hc fun h=> ?_
  rcases ho with ho | ho | ⟨ho,hg⟩
  ·exact h5 c ho h
  ·exact hi.sep c ho h
  ·rcases h3 c h with h | h
   ·exact hg h
   ·omega
 ·rcases ht.imN c hc with h | h | h
  ·exact .inl h
  ·exact .inr (h3 c h)
  ·exact .inr (.inr (Nat.le_trans h2 h))
theorem dv4.tr {C:Cx}{lo k:Nat}{w w' :World}{Im Im' :Nat→Prop}{φ φ' :y0}{σ σ' :i0}{ds:List Deferred}{Ds:List Nat} (h:dv4 C lo w Im φ σ ds Ds) (ht:Tr k w Im φ σ w' Im' φ' σ'):dv4 C lo w' Im' φ' σ' ds Ds:=
 ⟨h.eq,h.none,h.nodup,fun b hb=>by
  obtain⟨h1,h2,h3,h4,h5⟩:=h.ok b hb
  have hx:=ht.imX (X:=fun c=>c=b) (fun c hc=>by subst hc;exact⟨h2,h4,h5⟩) b rfl
  exact⟨h1,Nat.lt_of_lt_of_le h2 ht.ext.size,by rw[ht.ext.same b h2 h5];exact h3,hx.1,hx.2⟩⟩
theorem cK6.tr {E:L6}{C:Cx}{lo k:Nat}{w w' :World}{Im Im' :Nat→Prop}{φ φ' :y0}{σ σ' :i0}{ds:List Deferred} (h:cK6 E C lo w Im φ σ ds) (hk:C.m≤k) (hi:Inv w Im φ σ) (ht:Tr k w Im φ σ w' Im' φ' σ') (hi' :Inv w' Im' φ' σ'):cK6 E C lo w' Im' φ' σ' ds:=
 ⟨Nat.le_trans h.low ht.ext.size,h.gl.mono ht.im (ht.keeps hi),h.an.tr hk hi ht hi',let ⟨Ds,hm⟩:=h.mks;⟨Ds,hm.tr ht⟩⟩
structure aS2 (E:L6) (C:Cx) (lo:Nat) (w:World) (Im:Nat→Prop) (φ:y0) (fr:Fr) (σ:i0) (a:Act):Prop where
 fr:∀t,i9 w Im φ (v8 fr t) (a.tmps.getD t undef)
 inv:Inv w Im φ σ
 sd:cK6 E C lo w Im φ σ a.defers
 sz:a.tmps.size=C.fn.ntmps
 m:C.m≤φ.length
def cs7:Exit→Option Nat
 | .normal=>some 0
 | .ret=>some 1
 | .exit id=>some (id+2)
 | _=>none
/-- The marks' blocks are shut, at most. -/
structure cd0 (Ds : List Nat) (w w' : World) : Prop where
  size : w'.heap.size = w.heap.size
  same : ∀ c, c ∉ Ds → w'.heap[c]? = w.heap[c]?
  io : Io w w'
def aa1 (E:L6) (C:Cx) (lo:Nat) (Q:D→i0→Prop) (w:World) (Im:Nat→Prop) (φ:y0) (σ:i0) (e:Exit) (a' :Act) (w' :World):Prop:=
 (C.rb=true→∃n σ' φ' Im',cs7 e=some n∧Tr C.m w Im φ σ w' Im' φ' σ' ∧Inv w' Im' φ' σ' ∧Q (.int .i64 (n:Int)) σ')∧
 (C.rb=false→(e=.normal∨e=.ret)∧
  ∃Ds,a'.defers=Ds.map mark∧(C.it=true→Ds= [])∧Ds.Nodup∧(∀b∈Ds,lo≤b∧w'.heap[b]? =some (.deferred (some [])))∧
   ∀w'',cd0 Ds w' w'' →∃v d σ' φ' Im',(results C.fn a'.tmps).run E.P w'' =.ok v w'' ∧(C.it=false→Tr C.m w Im φ σ w' Im' φ' σ')∧Inv w'' Im' φ' σ' ∧i9 w'' Im' φ' d v∧Q d σ' ∧(C.it=true→eC4 C w'' Im' φ' σ'))
def OkF (F:Fence):Prop:=F=Fence.wide∨∃l,F=Fence.wide.inRound l
theorem OkF.fn {F:Fence} (h:OkF F) (f:FuncId):F.fn f:=by rcases h with rfl | ⟨l,rfl⟩<;>trivial
theorem OkF.depth {F:Fence} (h:OkF F):F.depth=none:=by rcases h with rfl | ⟨l,rfl⟩<;>rfl
theorem OkF.wide:OkF Fence.wide:=.inl rfl
theorem OkF.calls {F:Fence} (h:OkF F) {n:Nat}{P:Program}{f:FuncId}{args:Array Value}{w:World}{R:Ending→World→Prop} (hc:Calls P f args w R):CallsIn F n P f args w R:=by
 rcases h with rfl | ⟨l,rfl⟩
 ·exact callsIn_wide.2 hc
 ·exact callsIn_wide.2 hc
theorem OkF.rows {F:Fence} (h:OkF F) {n:Nat}{P:Program}{row:String}{args:Array Value}{w:World}{R:Value→World→Prop} (hr:Rows P row args w R):RowsIn F n P row args w R:=by
 intro c cs _
 obtain⟨v,w',q,hs⟩:=hr c cs
 refine⟨v,w',q,?_⟩
 rcases h with rfl | ⟨l,rfl⟩
 ·exact stepsIn_wide.2 hs
 ·exact stepsIn_wide.2 hs
theorem OkF.wp {F:Fence} (hF:OkF F) {n:Nat}{P:Program}{o:Oper}{a:Act}{w:World}{next:Act→World→Prop}{R:Exit→Act→World→Prop} (hnd:∀c,o.op≠.defer c) (h:o.wp P a w next R):o.wpIn F n P a w next R:=by
 refine⟨fun f _=>hF.fn f,?_⟩
 rw[Oper.semAt_eq _ _ _ hnd]
 unfold Oper.wp at h
 have hd:F.depth.isSome=true→1≤n:=fun hd=>by rw[hF.depth] at hd;cases hd
 generalize (execOp a.eval o).run P w=r at*
 cases r with
 | ok x w' =>
  cases x<;>simp only[Oper.upon,Oper.uponIn] at h ⊢
  all_goals first
   | exact h
   | exact⟨hd,hF.calls h⟩
   | exact⟨hd,hF.rows h⟩
   | exact h.elim
 | halt x w' =>
  cases x<;>simp only[Oper.upon,Oper.uponIn] at h ⊢
  all_goals first
   | exact h
   | exact h.elim
def cs8 (F:Fence) (n:Nat) (P:Program) (c:Code) (Q:Exit→Act→World→Prop) (a:Act) (w:World):Prop:=
 ∀(b:Frame) (k:List Item) (cs:List Frame),b.roundOf=F.round→F.fn b.fn→F.room (cs.length+1+n)→
  ∃e a' w',Q e a' w' ∧ArrivesIn (Machine.fenced P F) P (lone (b.atR a (.code c::.inLoop c::k)) cs w) b k cs e a' w'
def sem (F:Fence) (n:Nat) (P:Program) (Q:Exit→Act→World→Prop):List It→Exit→Act→World→Prop
 | []=>Q
 | .blk id::t=>Exit.inBlock id (sem F n P Q t)
 | .sc::t=>Exit.noGoto (sem F n P Q t)
 | .code c::t=>Exit.then (c.wpIn F n P (sem F n P Q t)) (sem F n P Q t)
 | .lp c _::t=>Exit.then (cs8 F n P c (sem F n P Q t)) (sem F n P Q t)
 | .lpc c _::t=>Exit.then (cs8 F n P c (sem F n P Q t)) (sem F n P Q t)
 | .ops all l::t=>Exit.then (wpListIn F n P all.toArray (sem F n P Q t) l) (sem F n P Q t)
def OkC (C:Cx) (F:Fence):Prop:=(C.rb=false→F=Fence.wide)∧(C.rb=true→∃l,F=Fence.wide.inRound l)
theorem OkC.ok {C:Cx}{F:Fence} (h:OkC C F):OkF F:=by
 cases hr:C.rb with
 | false=>exact .inl (h.1 hr)
 | true=>exact .inr (h.2 hr)
def dF2 (E:L6) (C:Cx) (Q:D→i0→Prop) (M:M):Prop:=
 ∀(F:Fence) (n:Nat),OkC C F→∀(lo:Nat) (a:Act) (w:World) (Im:Nat→Prop) (φ:y0),aS2 E C lo w Im φ M.fr M.st a→∀R:Exit→Act→World→Prop,(∀e a' w',aa1 E C lo Q w Im φ M.st e a' w' →R e a' w')→sem F n E.P R M.td .normal a w
def MW (m m' :Fr×i0):Prop:=∀(k:Nat) (w:World) (Im:Nat→Prop) (φ:y0) (v:Nat→Value),k≤φ.length→Inv w Im φ m.2→(∀t,i9 w Im φ (v8 m.1 t) (v t))→
 ∃φ',n7 φ φ' ∧φ.length≤φ'.length∧Tr k w Im φ m.2 w Im φ' m'.2∧Inv w Im φ' m'.2∧∀t,i9 w Im φ' (v8 m'.1 t) (v t)
def QW (Q:D→i0→Prop) (d:D) (s:i0):Prop:=∃d' s',MW ([(0,d)],s) ([(0,d')],s')∧Q d' s'
def Rng (B:i0→Prop) (R:List D→i0→(D→i0→Prop)→Prop) (A:Nat→i0→Prop):List (List D)→i0→Prop
 | [],σ=>A 0 σ
 | y::Y,σ=>R y σ fun d s=>B s∧((d=.int .i64 0∧Rng B R A Y s)∨∃n:Nat,n≠0∧d=.int .i64 (n:Int)∧A n s)
def Cx.fin (C:Cx):Prop:=C.it=true→C.Y=some []∨C.Y=none
def i4 (E:L6):Cx→(D→i0→Prop)→Qy→Prop
 | C,Q,.go m=>dF2 E C Q m
 | C,Q,.need b q=>b=true∧i4 E C Q q
 | C,Q,.split b k=>i4 E C Q (k b)
 | C,Q,.row r k=>∃x,r=some x∧i4 E C Q (k x)
 | C,Q,.rows r k=>i4 E C Q (k r)
 | C,Q,.any p k=>∀b,(b=true→p=true)→i4 E C Q (k b)
 | C,Q,.str r k=>∃x,r=some x∧i4 E C Q (k x)
 | C,Q,.call f args sub k=>∃Qc,i7 E f args sub Qc∧∀d s,Qc d s→i4 E C Q (k d s)
 | C,Q,.callD f args k=>∃d,bU6 E f args d∧i4 E C Q (k d)
 | C,Q,.callS f args sub k=>∃d s,(i7 E f args sub fun d' s' =>d' =d∧s' =s)∧i4 E C Q (k d s)
 | C,Q,.callR f args sub σ bk k=>∃d s x,(i7 E f args sub fun d' s' =>d' =d∧s' =s)∧bk d s=some x∧x.2.take σ.length=σ∧i4 E C Q (k x.1 x.2)
 | C,Q,.yld l y s k=>C.it=true∧C.rb=false∧C.lp=l∧U7 C.ln s∧∃Y,C.Y=some (y::Y)∧i4 E (C.tell (some Y)) Q (k true)∧i4 E (C.tell none) Q (k false)
 | C,Q,.rng m g caps sub σ ids rnd aft=>(ids= []∨F5 (tr (Y9 (bb2 ids σ.length)) q9) sub=some (F0 σ ids))∧
  ∃Y,as3 E g caps sub (bif ids.isEmpty then [] else sub) Y∧Rng (fun s=>F0 s ids=F0 σ ids) (fun y s q=>i4 E (C.round m) (QW q) (rnd y s)) (fun n s=>i4 E C Q (aft n s)) Y σ
 | C,Q,.ret d σ=>C.fin∧Q d σ
 | _,_,.bad=>False
/-- From a state to a later one. -/
structure Nx (w : World) (Im : Nat → Prop) (φ : y0) (σ : i0) (w' : World) (Im' : Nat → Prop) (φ' : y0) (σ' : i0) : Prop where
  le : n7 φ φ'
  len : φ.length ≤ φ'.length
  tr : Tr φ.length w Im φ σ w' Im' φ' σ'
  inv : Inv w' Im' φ' σ'
section
variable {E : L6} {C C' : Cx} {Q : D → i0 → Prop} {w w' : World} {Im Im' : Nat → Prop} {φ φ' : y0} {σ σ' : i0}
theorem ak8.nx {d:D}{v:Value} (g:ak8 w Im φ σ w' φ' σ' d v) (hlen:φ.length≤φ'.length):Nx w Im φ σ w' Im φ' σ' :=⟨g.le,hlen,g.tr,g.inv⟩
theorem n7.length {a b:y0} (h:n7 a b):a.length≤b.length:=by
 rcases Nat.lt_or_ge b.length a.length with hlt | hge
 ·have h1:a[b.length]? =some (a[b.length]):=by simp[hlt]
  have:=h _ _ h1
  simp at this
 ·exact hge
theorem aa1.of_tr {lo:Nat}{e:Exit}{a' :Act}{w2:World} (h:Tr C.m w Im φ σ w' Im' φ' σ') (hd:aa1 E C lo Q w' Im' φ' σ' e a' w2):aa1 E C lo Q w Im φ σ e a' w2:=by
 obtain⟨h1,h2⟩:=hd
 refine⟨fun hr=> ?_,fun hr=> ?_⟩
 ·obtain⟨n,s,p,I,g1,g2,g3,g4⟩:=h1 hr
  exact⟨n,s,p,I,g1,h.trans g2,g3,g4⟩
 ·obtain⟨g1,Ds,g3,g4,g5,g6,g7⟩:=h2 hr
  refine⟨g1,Ds,g3,g4,g5,g6,fun w'' hs=> ?_⟩
  obtain⟨v,d,s,p,I,k1,k2,k3⟩:=g7 w'' hs
  exact⟨v,d,s,p,I,k1,fun hi=>h.trans (k2 hi),k3⟩
/-- A move of a text: what is known goes with it. -/
structure Mv (E : L6) (C : Cx) (w : World) (Im : Nat → Prop) (φ : y0) (σ : i0) (C' : Cx) (w' : World) (Im' : Nat → Prop) (φ' : y0) (σ' : i0) : Prop where
  le : n7 φ φ'
  len : φ.length ≤ φ'.length
  im : ∀ c, Im c → Im' c
  hp : ∀ c, Im c → w'.heap[c]? = w.heap[c]?
  inv : Inv w' Im' φ' σ'
  sd : ∀ lo ds, cK6 E C lo w Im φ σ ds → cK6 E C' lo w' Im' φ' σ' ds
  cx : ∃ Y, C' = C.tell Y
  dn : ∀ lo Q e a w2, aa1 E C' lo Q w' Im' φ' σ' e a w2 → aa1 E C lo Q w Im φ σ e a w2
theorem Nx.mv (hi:Inv w Im φ σ) (hm:C.m≤φ.length) (n:Nx w Im φ σ w' Im' φ' σ'):Mv E C w Im φ σ C w' Im' φ' σ' :=
 ⟨n.le,n.len,n.tr.im,n.tr.keeps hi,n.inv,fun lo ds h=>h.tr hm hi n.tr n.inv,⟨C.Y,rfl⟩,fun lo Q e a w2 hd=>aa1.of_tr (n.tr.le hm) hd⟩
theorem Mv.rel (h:Mv E C w Im φ σ C' w' Im' φ' σ') {d:D}{v:Value} (hr:i9 w Im φ d v):i9 w' Im' φ' d v:=hr.mono h.im h.hp h.le
theorem aS3 {fr:Fr}{a:Act} (hg:GlOk E w Im) (h:∀t,i9 w Im φ (v8 fr t) (a.tmps.getD t undef)) (x:Operand):i9 w Im φ (I8 E.gl fr x) (a.eval x):=by
 cases x with
 | tmp t=>exact h t
 | const v=>exact aX9 v
 | global g=>exact(hg g).mono (fun _ h=>h) (fun _ _=>rfl) (n7.nil _)
 | func f=>exact .fn f [] [] #[] #[] rfl rfl (fun i d v a=>by simp at a) (fun i d v a=>by simp at a)
theorem cY2 {fr:Fr}{a:Act} (h:∀t,i9 w Im φ (v8 fr t) (a.tmps.getD t undef)) {dst:Option Nat}{n:Nat} (hsz:a.tmps.size=n) (hd:bO9 n dst=true) {d:D}{v:Value} (hr:i9 w Im φ d v):
  ∀t,i9 w Im φ (v8 (put fr dst d) t) ((a.put dst v).tmps.getD t undef):=by
 intro t
 cases dst with
 | none=>exact h t
 | some s=>
  have hs:s<a.tmps.size:=by rw[hsz];exact Nat.lt_of_succ_le (Nat.le_of_ble_eq_true hd)
  simp only[put,az9,v8,Act.put,Bool.cond_eq_ite]
  split
  ·rename_i he
   have he' :=Nat.eq_of_beq_eq_true he
   subst he'
   rw[show(a.tmps.setIfInBounds s v).getD s undef=v by simp[hs]]
   exact hr
  ·rename_i he
   have hne:s≠t:=fun e=>he (by rw[e];exact Nat.beq_refl t)
   have:(a.tmps.setIfInBounds s v).getD t undef=a.tmps.getD t undef:=by
    simp[Array.getElem?_setIfInBounds_ne hne]
   rw[this]
   exact h t
theorem dG6 (a:Act) (dst:Option Nat) (v:Value):(a.put dst v).tmps.size=a.tmps.size:=by
 cases dst<;>simp[Act.put]
theorem ee9 (a:Act) (dst:Option Nat) (v:Value):(a.put dst v).defers=a.defers:=by
 cases dst<;>rfl
/-! ### calls -/
theorem co7:∀(n:Nat) (d:D) (v:Value),aQ1 n d=true→i9 w Im φ d v→i9 w' Im' φ' d v
 | 0,_,_,h,_=>by simp[aQ1] at h
 | n+1,d,v,h,hr=>by
  have IH:=co7 n
  cases hr<;>simp[aQ1] at h
  case bool=>exact .bool _
  case int=>exact .int _ _
  case str e=>exact .str _ _ e
  case agg cs vs e1 e2=>exact .agg _ _ e1 (fun i d v a b=>IH d v (h d (List.mem_of_getElem? a)) (e2 i d v a b))
  case tup cs vs e1 e2=>exact .tup _ _ e1 (fun i d v a b=>IH d v (h d (List.mem_of_getElem? a)) (e2 i d v a b))
theorem aR3 (c:Nat):¬Own [] [] c:=fun⟨b,B,l,h,_⟩=>by simp at h
theorem Inv.past (hi:Inv w Im φ σ) {I2:Nat→Prop}{φ2:y0}{σ2:i0}{J:Nat→Prop} (ht:Tr 0 w J [] [] w' I2 φ2 σ2) (h2:Inv w' I2 φ2 σ2) (hIm:∀c,Im c→I2 c) (hN:∀c,I2 c→Im c∨w.heap.size≤c):
  Inv w' I2 φ σ∧Tr φ.length w Im φ σ w' I2 φ σ:=by
 have hsame:∀c,c<w.heap.size→w'.heap[c]? =w.heap[c]? :=fun c hc=>ht.ext.same c hc (aR3 c)
 refine⟨⟨hi.len,fun b B l a1 a2=> ?_,hi.inj,fun c hc ho=> ?_,h2.im⟩,⟨⟨ht.ext.size,fun c hc _=>hsame c hc,ht.ext.io⟩,fun c hc=> .inl hc,fun _ _=>rfl,hIm,fun c hc=> ?_⟩⟩
 ·have hk:=hi.blk b B l a1 a2
  exact hk.of_heap (fun hp=>hsame _ (hk.lt hp)) ht.ext.size hIm (fun c hc=>hsame c (hi.im c hc)) (n7.refl _)
 ·rcases hN c hc with h | h
  ·exact hi.sep c h ho
  ·have:=hi.own_lt ho;omega
 ·rcases hN c hc with h | h
  ·exact .inl h
  ·exact .inr (.inr h)
theorem bd0 {f:D→Option D}{args args' :List D}{vs:List Value}{ψ:y0} (h:U5 f args=some args') (hr:K4 w Im φ args vs) (hf:∀d d' v,i9 w Im φ d v→f d=some d' →i9 w Im' ψ d' v):K4 w Im' ψ args' vs:=by
 obtain⟨h1,h2⟩:=bu8 h
 refine⟨by rw[h1];exact hr.1,fun i d v a b=> ?_⟩
 obtain⟨d0,hd0⟩:=ay4 h1.symm a
 exact hf d0 d v (hr.2 i d0 v hd0 b) (h2 i d0 d hd0 a)
theorem Inv.join (hi:Inv w' Im φ σ) {φ2:y0}{σ2 s' :i0} (h2:Inv w' Im φ2 σ2) (hdis:∀c,Own φ2 σ2 c→¬Own φ σ c) (hs:F5 (tr (Y9 fun j=>some (σ.length+j)) q9) σ2=some s'):
  Inv w' Im (φ++φ2) (σ++s')∧(∀c,Own (φ++φ2) (σ++s') c→Own φ σ c∨Own φ2 σ2 c)∧∀d d' v,i9 w' Im φ2 d v→tr (Y9 fun j=>some (σ.length+j)) q9 d=some d' →i9 w' Im (φ++φ2) d' v:=by
 obtain⟨h3,h4⟩:=S0 hs
 have hren:∀d d' v,i9 w' Im φ2 d v→tr (Y9 fun j=>some (σ.length+j)) q9 d=some d' →i9 w' Im (φ++φ2) d' v:=fun d d' v a b=>
  aM6 (fun _ h=>h) (fun b c l e1 e2=>by
   obtain rfl:=Option.some.inj e1
   rw[←hi.len,List.getElem?_append_right (by omega),show φ.length+b-φ.length=b by omega];exact e2) q9 d d' v a b
 have hlen:s'.length=φ2.length:=by rw[h3,h2.len]
 have hget:∀b B l,sget (σ++s') b=some B→(φ++φ2)[b]? =some l→(b<σ.length∧sget σ b=some B∧φ[b]? =some l)∨(σ.length≤b∧∃B2,sget σ2 (b-σ.length)=some B2∧φ2[b-σ.length]? =some l∧ao9 w' Im (φ++φ2) B l):=fun b B l a1 a2=>by
  by_cases hb:b<σ.length
  ·rw[F7 hb] at a1
   rw[List.getElem?_append_left (by rw[hi.len];exact hb)] at a2
   exact .inl ⟨hb,a1,a2⟩
  ·have a1' :sget s' (b-σ.length)=some B:=by
    rw[R5] at a1 ⊢
    rwa [List.getElem?_append_right (by omega)] at a1
   rw[List.getElem?_append_right (by rw[hi.len];omega),hi.len] at a2
   obtain⟨B2,hB2,h5⟩:=h4 _ _ a1'
   exact .inr ⟨by omega,B2,hB2,a2,aG2 (fun _ h=>h) hren (aV5 (aT1 _) q9) h5 (h2.blk _ _ _ hB2 a2)⟩
 have hown:∀c,Own (φ++φ2) (σ++s') c→Own φ σ c∨Own φ2 σ2 c:=by
  rintro c ⟨b,B,l,a1,a2,rfl,hp⟩
  rcases hget b B l a2 a1 with⟨_,h6,h7⟩ | ⟨_,B2,h6,h7,_⟩
  ·exact .inl ⟨b,B,l,h7,h6,rfl,hp⟩
  ·exact .inr ⟨_,B2,l,h7,h6,rfl,hp⟩
 refine⟨⟨by simp[hi.len,hlen],fun b B l a1 a2=> ?_,fun b b' B B' l l' hne a1 a2 a3 a4 p1 p2=> ?_,fun c hc ho=> ?_,hi.im⟩,hown,hren⟩
 ·rcases hget b B l a1 a2 with⟨_,h6,h7⟩ | ⟨_,B2,h6,h7,hk⟩
  ·exact(hi.blk b B l h6 h7).of_heap (fun _=>rfl) (Nat.le_refl _) (fun _ h=>h) (fun _ _=>rfl) (n7.append _ _)
  ·exact hk
 ·rcases hget b B l a3 a1 with⟨_,h6,h7⟩ | ⟨hge,B2,h6,h7,_⟩<;>rcases hget b' B' l' a4 a2 with⟨_,g6,g7⟩ | ⟨gge,C2,g6,g7,_⟩
  ·exact hi.inj b b' B B' l l' hne h7 g7 h6 g6 p1 p2
  ·exact fun e=>hdis l'.blk ⟨_,C2,l',g7,g6,rfl,p2⟩ ⟨b,B,l,h7,h6,e,p1⟩
  ·exact fun e=>hdis l.blk ⟨_,B2,l,h7,h6,rfl,p1⟩ ⟨b',B',l',g7,g6,e.symm,p2⟩
  ·exact h2.inj (b-σ.length) (b' -σ.length) B2 C2 l l' (by omega) h7 g7 h6 g6 p1 p2
 ·rcases hown c ho with h | h
  ·exact hi.sep c hc h
  ·exact h2.sep c hc h
end
section
variable {E : L6} {C : Cx} {Q : D → i0 → Prop} {σ : i0} {m : Nat}
theorem br6:∀{l:List Bool}{q:Qy},i4 E C Q (ce7 l q)→(∀b∈l,b=true)∧i4 E C Q q
 | [],q,h=>⟨fun b hb=>by simp at hb,h⟩
 | b::l,q,h=>by
  obtain⟨h1,h2⟩:=h
  obtain⟨h3,h4⟩:=br6 h2
  exact⟨fun x hx=>(List.mem_cons.1 hx).elim (fun e=>e▸h1) (h3 x),h4⟩
theorem at2 {α:Type}{c:α→List Bool}{l:List α} (h:∀b∈l.flatMap c,b=true):∀x∈l,∀b∈c x,b=true:=
 fun x hx b hb=>h b (List.mem_flatMap.2 ⟨x,hx,hb⟩)
theorem bq8 {f g:D→Option D}:∀{l l' :List D},(∀x∈l,∀y,f x=some y→g x=some y)→U5 f l=some l' →U5 g l=some l'
 | [],l',_,e=>e
 | d::r,l',h,e=>by
  simp only[U5] at e ⊢
  split at e
  ·rename_i x y h1 h2
   rw[h d (by simp) _ h1,bq8 (fun x hx=>h x (by simp[hx])) h2];exact e
  ·cases e
theorem cx3 {f g:D→Option D}:∀{l l' :List (List D)},(∀r∈l,∀x∈r,∀y,f x=some y→g x=some y)→aQ4 f l=some l' →aQ4 g l=some l'
 | [],l',_,e=>e
 | d::r,l',h,e=>by
  simp only[aQ4] at e ⊢
  split at e
  ·rename_i x y h1 h2
   rw[bq8 (h d (by simp)) h1,cx3 (fun x hx=>h x (by simp[hx])) h2];exact e
  ·cases e
theorem dS4 {f g:D→Option D}{c:D→List Bool} (h:∀d d',(∀b∈c d,b=true)→f d=some d' →g d=some d'):∀(n:Nat) (d d' :D),(∀b∈gat c n d,b=true)→tr f n d=some d' →tr g n d=some d'
 | 0,_,_,_,e=>by simp[tr] at e
 | n+1,d,d',hc,e=>by
  have ih:=dS4 h n
  cases d<;>simp only[tr,gat] at e hc ⊢<;>try exact e
  case ptr=>exact h _ _ hc e
  case msl=>exact h _ _ hc e
  case fn=>
   have hc1:=at2 (fun b hb=>hc b (List.mem_append.2 (.inl hb)))
   have hc2:=at2 (fun b hb=>hc b (List.mem_append.2 (.inr hb)))
   split at e
   ·rename_i x y h1 h2
    rw[bq8 (fun x hx y=>ih x y (hc1 x hx)) h1,bq8 (fun x hx y=>ih x y (hc2 x hx)) h2];exact e
   ·cases e
  case agg=>
   simp only[Option.map_eq_some_iff] at e ⊢
   obtain⟨x,h1,rfl⟩:=e
   exact⟨x,bq8 (fun x hx y=>ih x y (at2 hc x hx)) h1,rfl⟩
  case tup=>
   simp only[Option.map_eq_some_iff] at e ⊢
   obtain⟨x,h1,rfl⟩:=e
   exact⟨x,bq8 (fun x hx y=>ih x y (at2 hc x hx)) h1,rfl⟩
  case iface=>
   simp only[Option.map_eq_some_iff] at e ⊢
   obtain⟨x,h1,rfl⟩:=e
   exact⟨x,ih _ _ hc h1,rfl⟩
theorem dM5:∀(n:Nat) (st:Bool) (d d' :D),(∀b∈dw9 σ m n d,b=true)→cw4 σ m st n d=some d' →ao7 σ m st n d=some d'
 | 0,_,_,_,_,e=>by simp[cw4] at e
 | n+1,st,d,d',hc,e=>by
  have ih:=dS4 (dM5 n true) q9
  cases d<;>simp only[cw4,ao7,dw9,Bool.cond_eq_ite] at e hc ⊢<;>try (cases e;done)
  ·split at e
   ·rename_i h1;rw[if_pos h1];exact e
   ·rename_i h1
    rw[if_neg h1] at hc ⊢
    split at e
    ·rename_i B hB
     simp only[hB] at hc ⊢
     split at e
     ·rename_i h2
      rw[if_pos h2] at hc ⊢
      split at e
      ·rename_i rows hrows
       rw[cx3 (fun r hr x hx y=>ih x y (at2 (at2 hc r hr) x hx)) hrows];exact e
      ·cases e
     ·rename_i h2;rw[if_neg h2];exact e
    ·cases e
  ·split at e
   ·rename_i h1;rw[if_pos h1];exact e
   ·rename_i h1
    rw[if_neg h1] at hc ⊢
    split at e
    ·rename_i B hB
     simp only[hB] at hc ⊢
     rw[if_pos (hc _ (by simp))]
     have hc' :=fun b hb=>hc b (List.mem_cons_of_mem _ hb)
     split at e
     ·rename_i h2
      rw[if_pos h2] at hc' ⊢
      split at e
      ·rename_i rows hrows
       rw[cx3 (fun r hr x hx y=>ih x y (at2 (at2 hc' r hr) x hx)) hrows];exact e
      ·cases e
     ·rename_i h2;rw[if_neg h2];exact e
    ·cases e
theorem dG5 {d d' :D} (hc:∀b∈cY1 σ m d,b=true) (e:df2 σ m d=some d'):frz σ m d=some d' :=dS4 (dM5 6 false) q9 d d' hc e
theorem dO1 {l l' :List D} (hc:∀b∈l.flatMap (cY1 σ m),b=true) (e:U5 (df2 σ m) l=some l'):U5 (frz σ m) l=some l' :=bq8 (fun x hx y=>dG5 (at2 hc x hx)) e
theorem eD5 {f g:D→Option D}{c:D→List Bool} (h:∀d d',(∀b∈c d,b=true)→f d=some d' →g d=some d') {B B' :Option G7} (hc:∀b∈dR8 c B,b=true) (e:bl5 f B=some B'):bl5 g B=some B' :=by
 cases B with
 | none=>exact e
 | some B=>
  simp only[bl5,dR8,Bool.cond_eq_ite] at e hc ⊢
  split at e
  ·rename_i h1
   rw[if_pos h1] at hc ⊢
   simp only[Option.map_eq_some_iff] at e ⊢
   obtain⟨x,h2,rfl⟩:=e
   exact⟨x,cx3 (fun r hr x hx y=>h x y (at2 (at2 hc r hr) x hx)) h2,rfl⟩
  ·rename_i h1;rw[if_neg h1];exact e
theorem dV8 {f g:D→Option D}{c:D→List Bool} (h:∀d d',(∀b∈c d,b=true)→f d=some d' →g d=some d'):∀{s s' :i0},(∀b∈s.flatMap (dR8 c),b=true)→F5 f s=some s' →F5 g s=some s'
 | [],s',_,e=>e
 | b::r,s',hc,e=>by
  simp only[F5] at e ⊢
  split at e
  ·rename_i x y h1 h2
   rw[eD5 h (fun b' hb=>hc b' (by simp only[List.flatMap_cons,List.mem_append];exact .inl hb)) h1,dV8 h (fun b' hb=>hc b' (by simp only[List.flatMap_cons,List.mem_append];exact .inr hb)) h2];exact e
  ·cases e
end
section
variable {E : L6} {C : Cx} {Q : D → i0 → Prop} {w w' : World} {Im Im' : Nat → Prop} {φ φ' : y0} {σ σ' : i0}
theorem av9:∀(ids:List Nat) (xs σ:i0),(ab6 ids xs σ).length=σ.length
 | [],_,_=>by simp[ab6]
 | _::_,[],_=>by simp[ab6]
 | b::ids,x::xs,σ=>by simp[ab6,av9 ids xs σ]
theorem cP6:∀(ids:List Nat) (xs σ:i0) (b:Nat),bl7 ids=true→b<σ.length→
  (∃j,ids[j]? =some b∧j<xs.length∧sget (ab6 ids xs σ) b=sget xs j)∨((∀j,ids[j]? =some b→xs.length≤j)∧sget (ab6 ids xs σ) b=sget σ b)
 | [],xs,σ,b,_,_=> .inr ⟨fun j h=>by simp at h,by simp[ab6]⟩
 | x::ids,[],σ,b,_,_=> .inr ⟨fun j _=>by simp,by simp[ab6]⟩
 | x::ids,y::xs,σ,b,hnd,hb=>by
  have hnd' :=hnd
  simp only[bl7,Bool.and_eq_true,Bool.not_eq_true'] at hnd'
  by_cases hx:x=b
  ·subst hx
   refine .inl ⟨0,rfl,by simp,?_⟩
   rw[ab6,ad5 (by rw[av9];exact hb)]
   unfold sget;cases y<;>rfl
  ·rcases cP6 ids xs σ b hnd'.2 hb with⟨j,h1,h2,h3⟩ | ⟨h1,h2⟩
   ·refine .inl ⟨j+1,by simpa using h1,by simp;omega,?_⟩
    rw[ab6,F6 hx,h3]
    unfold sget;simp
   ·refine .inr ⟨fun j hj=> ?_,by rw[ab6,F6 hx,h2]⟩
    cases j with
    | zero=>simp at hj;exact absurd hj hx
    | succ j=>have:=h1 j (by simpa using hj);simp;omega
theorem Inv.passed (hi:Inv w Im φ σ) {ids:List Nat} (hnd:bl7 ids=true) (hin:∀b∈ids,b<σ.length) {sub s s' :i0}{φ2:y0}
  (hsub:F5 (tr (Y9 fun b=>bg8 ids b 0) q9) (F0 σ ids)=some sub)
  (ht:Tr sub.length w Im (O7 φ ids) sub w' Im' φ2 s) (h2:Inv w' Im' φ2 s)
  (hs:F5 (tr (Y9 (bb2 ids σ.length)) q9) s=some s') (hn:ids.length≤s'.length):
  Nx w Im φ σ w' Im' (φ++φ2.drop ids.length) (ab6 ids s' σ++s'.drop ids.length)∧
  ∀d d' v,i9 w' Im' φ2 d v→tr (Y9 (bb2 ids σ.length)) q9 d=some d' →i9 w' Im' (φ++φ2.drop ids.length) d' v:=by
 obtain⟨p1,p2⟩:=hi.pick hnd rfl hsub
 obtain⟨q1,q2⟩:=S0 hs
 have hsubl:sub.length=ids.length:=by rw[(S0 hsub).1];simp[F0]
 have hφlen:=hi.len
 have h2len:=h2.len
 have hpre:∀j b,ids[j]? =some b→∃l,φ[b]? =some l∧φ2[j]? =some l:=fun j b hj=>by
  have hb:=hin b (List.mem_of_getElem? hj)
  have hj' :=(List.getElem?_eq_some_iff.1 hj).1
  have hlt:b<φ.length:=by omega
  refine⟨φ[b]'hlt,List.getElem?_eq_getElem hlt,?_⟩
  rw[ht.pre j (by omega),aG4 hj,bb3,List.getElem?_eq_getElem hlt]
  rfl
 have hren:∀d d' v,i9 w' Im' φ2 d v→tr (Y9 (bb2 ids σ.length)) q9 d=some d' →i9 w' Im' (φ++φ2.drop ids.length) d' v:=fun d d' v a b=>
  aM6 (fun _ h=>h) (fun j c l e1 e2=>by
   simp only[bb2,Bool.cond_eq_ite] at e1
   split at e1
   ·obtain⟨l',e3,e4⟩:=hpre j c e1
    obtain rfl:=Option.some.inj (e2.symm.trans e4)
    exact n7.append _ _ _ _ e3
   ·rename_i hlt
    have hge:ids.length≤j:=by
     rcases Nat.lt_or_ge j ids.length with h | h
     ·exact absurd (Nat.ble_eq_true_of_le h) hlt
     ·exact h
    obtain rfl:=Option.some.inj e1
    rw[←hφlen,List.getElem?_append_right (by omega),List.getElem?_drop,show ids.length+(φ.length+(j-ids.length)-φ.length)=j by omega]
    exact e2) q9 d d' v a b
 --what a block of the new store is
 have hget:∀b B l,sget (ab6 ids s' σ++s'.drop ids.length) b=some B→(φ++φ2.drop ids.length)[b]? =some l→
   (b<σ.length∧(∀j,ids[j]? ≠some b)∧sget σ b=some B∧φ[b]? =some l)∨
   (∃j B2,sget s j=some B2∧φ2[j]? =some l∧ao9 w' Im' (φ++φ2.drop ids.length) B l∧((b<σ.length∧ids[j]? =some b)∨(σ.length≤b∧j=ids.length+(b-σ.length)))):=fun b B l a1 a2=>by
  by_cases hb:b<σ.length
  ·rw[F7 (by rw[av9];exact hb)] at a1
   rw[List.getElem?_append_left (by rw[hφlen];exact hb)] at a2
   rcases cP6 ids s' σ b hnd hb with⟨j,h1,h3,h4⟩ | ⟨h1,h3⟩
   ·rw[h4] at a1
    obtain⟨B2,hB2,h5⟩:=q2 j B a1
    obtain⟨l',e3,e4⟩:=hpre j b h1
    obtain rfl:=Option.some.inj (a2.symm.trans e3)
    exact .inr ⟨j,B2,hB2,e4,aG2 (fun _ h=>h) hren (aV5 (aT1 _) q9) h5 (h2.blk _ _ _ hB2 e4),.inl ⟨hb,h1⟩⟩
   ·rw[h3] at a1
    refine .inl ⟨hb,fun j hj=> ?_,a1,a2⟩
    have:=h1 j hj
    have:=(List.getElem?_eq_some_iff.1 hj).1
    omega
  ·have a1' :sget s' (ids.length+(b-σ.length))=some B:=by
    rw[R5] at a1 ⊢
    rw[List.getElem?_append_right (by rw[av9];omega),List.getElem?_drop,av9] at a1
    exact a1
   rw[List.getElem?_append_right (by rw[hφlen];omega),List.getElem?_drop,hφlen] at a2
   obtain⟨B2,hB2,h5⟩:=q2 _ B a1'
   exact .inr ⟨_,B2,hB2,a2,aG2 (fun _ h=>h) hren (aV5 (aT1 _) q9) h5 (h2.blk _ _ _ hB2 a2),.inr ⟨by omega,rfl⟩⟩
 have hown2:∀c,Own φ2 s c→Own φ σ c∨w.heap.size≤c:=fun c hc=>by
  rcases ht.own c hc with h | h
  ·exact .inl (p2 c h)
  ·exact .inr h
 --an untouched block is none of the callee's
 have hfar:∀b B l,sget σ b=some B→φ[b]? =some l→(∀j,ids[j]? ≠some b)→0<l.size→¬Own (O7 φ ids) sub l.blk∧¬Own φ2 s l.blk:=fun b B l a1 a2 a3 hp=>by
  have hno:¬Own (O7 φ ids) sub l.blk:=by
   rintro ⟨j,B',l',e1,e2,e3,hp'⟩
   obtain⟨B0,hB0,_⟩:=(S0 hsub).2 j B' e2
   obtain⟨b',hb',hB'⟩:=bR9 hB0
   obtain⟨l0,hl0,_⟩:=hi.loc hB'
   rw[aG4 hb',bb3,hl0] at e1
   obtain rfl:l0=l' :=by simpa using e1
   have hne:b' ≠b:=fun e=>a3 j (e▸hb')
   exact hi.inj b' b B0 B l0 l hne hl0 a2 hB' a1 hp' hp e3
  refine⟨hno,fun ho=> ?_⟩
  rcases ht.own _ ho with h | h
  ·exact hno h
  ·have:=(hi.blk b B l a1 a2).lt hp;omega
 refine⟨⟨n7.append _ _,by simp,⟨⟨ht.ext.size,fun c hc ho=>ht.ext.same c hc (fun h=>ho (p2 c h)),ht.ext.io⟩,fun c hc=> ?_,fun b hb=>by rw[List.getElem?_append_left hb],ht.im,fun c hc=> ?_⟩,⟨?_,fun b B l a1 a2=> ?_,fun b b' B B' l l' hne a1 a2 a3 a4 pp1 pp2=> ?_,fun c hc ho=> ?_,h2.im⟩⟩,hren⟩
 ·obtain⟨b,B,l,a1,a2,rfl,hp⟩:=hc
  rcases hget b B l a2 a1 with⟨_,_,h3,h4⟩ | ⟨j,B2,h3,h4,_,_⟩
  ·exact .inl ⟨b,B,l,h4,h3,rfl,hp⟩
  ·exact hown2 _ ⟨j,B2,l,h4,h3,rfl,hp⟩
 ·rcases ht.imN c hc with h | h | h
  ·exact .inl h
  ·exact .inr (.inl (p2 c h))
  ·exact .inr (.inr h)
 ·simp only[List.length_append,av9,List.length_drop,hφlen,h2len,q1]
 ·rcases hget b B l a1 a2 with⟨_,h0,h3,h4⟩ | ⟨j,B2,h3,h4,hk,_⟩
  ·have hk:=hi.blk b B l h3 h4
   exact hk.of_heap (fun hp=>ht.ext.same _ (hk.lt hp) (hfar b B l h3 h4 h0 hp).1) ht.ext.size ht.im (fun c hc=>ht.ext.same c (hi.im c hc) (p1.sep c hc)) (n7.append _ _)
  ·exact hk
 ·rcases hget b B l a3 a1 with⟨_,h0,h3,h4⟩ | ⟨j,B2,h3,h4,_,hj⟩<;>rcases hget b' B' l' a4 a2 with⟨_,g0,g3,g4⟩ | ⟨j',C2,g3,g4,_,gj⟩
  ·exact hi.inj b b' B B' l l' hne h4 g4 h3 g3 pp1 pp2
  ·exact fun e=>(hfar b B l h3 h4 h0 pp1).2 ⟨j',C2,l',g4,g3,e.symm,pp2⟩
  ·exact fun e=>(hfar b' B' l' g3 g4 g0 pp2).2 ⟨j,B2,l,h4,h3,e,pp1⟩
  ·refine h2.inj j j' B2 C2 l l' (fun e=> ?_) h4 g4 h3 g3 pp1 pp2
   subst e
   rcases hj with⟨_,hj⟩ | ⟨hj1,hj2⟩<;>rcases gj with⟨_,gj⟩ | ⟨gj1,gj2⟩
   ·exact hne (Option.some.inj (hj.symm.trans gj))
   ·have:=(List.getElem?_eq_some_iff.1 hj).1;omega
   ·have:=(List.getElem?_eq_some_iff.1 gj).1;omega
   ·omega
 ·obtain⟨b,B,l,a1,a2,rfl,hp⟩:=ho
  rcases hget b B l a2 a1 with⟨_,h0,h3,h4⟩ | ⟨j,B2,h3,h4,_,_⟩
  ·rcases ht.imN _ hc with h | h | h
   ·exact hi.sep _ h ⟨b,B,l,h4,h3,rfl,hp⟩
   ·exact(hfar b B l h3 h4 h0 hp).1 h
   ·have:=(hi.blk b B l h3 h4).lt hp;omega
  ·exact h2.sep _ hc ⟨j,B2,l,h4,h3,rfl,hp⟩
theorem bs1 (p:Nat→Bool):∀(i:Nat) (σ:i0),(D5 p i σ).length=σ.length
 | _,[]=>rfl
 | i,_::r=>by simp[D5,bs1 p (i+1) r]
theorem aR6 {p:Nat→Bool}:∀{i:Nat}{σ:i0}{b:Nat}{B:G7},sget (D5 p i σ) b=some B→sget σ b=some B∧p (i+b)=true
 | _,[],b,B,h=>by simp[D5,sget] at h
 | i,x::r,0,B,h=>by
  simp only[D5,sget,List.getElem?_cons_zero] at h ⊢
  cases hp:p i with
  | true=>rw[hp] at h;exact⟨h,by simp[hp]⟩
  | false=>rw[hp] at h;simp at h
 | i,x::r,b+1,B,h=>by
  have h' :sget (D5 p (i+1) r) b=some B:=by simpa only[D5,sget,List.getElem?_cons_succ] using h
  obtain⟨h1,h2⟩:=aR6 h'
  exact⟨by simpa only[sget,List.getElem?_cons_succ] using h1,by rw[←h2];congr 1;omega⟩
theorem Inv.sel (h:Inv w Im φ σ) (p:Nat→Bool):Inv w Im φ (D5 p 0 σ):=by
 have hg:∀c B,sget (D5 p 0 σ) c=some B→sget σ c=some B:=fun c B hc=>(aR6 hc).1
 have hown:∀c,Own φ (D5 p 0 σ) c→Own φ σ c:=fun c ⟨b1,B1,l1,h1,h2,h3⟩=>⟨b1,B1,l1,h1,hg _ _ h2,h3⟩
 exact⟨by rw[bs1];exact h.len,fun c B l h1 h2=>h.blk c B l (hg _ _ h1) h2,fun b1 b2 B1 B2 l1 l2 hne h1 h2 h3 h4 p1 p2=>h.inj b1 b2 B1 B2 l1 l2 hne h1 h2 (hg _ _ h3) (hg _ _ h4) p1 p2,
  fun c hc ho=>h.sep c hc (hown c ho),h.im⟩
theorem Inv.give (h:Inv w Im φ σ) (p:Nat→Bool):Inv w (fun c=>Im c∨Own φ (D5 p 0 σ) c) φ (D5 (fun i=> !(p i)) 0 σ)∧
  Tr φ.length w Im φ σ w (fun c=>Im c∨Own φ (D5 p 0 σ) c) φ (D5 (fun i=> !(p i)) 0 σ):=by
 have hg:∀q c B,sget (D5 q 0 σ) c=some B→sget σ c=some B:=fun q c B hc=>(aR6 hc).1
 have hown:∀q c,Own φ (D5 q 0 σ) c→Own φ σ c:=fun q c ⟨b1,B1,l1,h1,h2,h3⟩=>⟨b1,B1,l1,h1,hg _ _ _ h2,h3⟩
 refine⟨⟨by rw[bs1];exact h.len,fun c B l h1 h2=>(h.blk c B l (hg _ _ _ h1) h2).of_heap (fun _=>rfl) (Nat.le_refl _) (fun _ h=> .inl h) (fun _ _=>rfl) (n7.refl _),
  fun b1 b2 B1 B2 l1 l2 hne h1 h2 h3 h4 p1 p2=>h.inj b1 b2 B1 B2 l1 l2 hne h1 h2 (hg _ _ _ h3) (hg _ _ _ h4) p1 p2,fun c hc ho=> ?_,fun c hc=>hc.elim (h.im c) (fun ho=>h.own_lt (hown _ c ho))⟩,
  ⟨⟨Nat.le_refl _,fun _ _ _=>rfl,⟨rfl,rfl,rfl⟩⟩,fun c hc=> .inl (hown _ c hc),fun _ _=>rfl,fun _ h=> .inl h,fun c hc=>hc.elim .inl (fun ho=> .inr (.inl (hown _ c ho)))⟩⟩
 rcases hc with hc | hc
 ·exact h.sep c hc (hown _ c ho)
 ·obtain⟨b1,B1,l1,a1,a2,a3,a4⟩:=hc
  obtain⟨b2,B2,l2,c1,c2,c3,c4⟩:=ho
  obtain⟨a5,a6⟩:=aR6 a2
  obtain⟨c5,c6⟩:=aR6 c2
  have hne:b1≠b2:=fun e=>by subst e;rw[a6] at c6;cases c6
  exact h.inj b1 b2 B1 B2 l1 l2 hne a1 c1 a5 c5 a4 c4 (a3.trans c3.symm)
theorem dB3 (hi:Inv w Im φ σ) {v:Value}{d:D}{s:i0}{φ2:y0}{I2:Nat→Prop} (ht:Tr 0 w Im [] [] w' I2 φ2 s) (h2:Inv w' I2 φ2 s) (hr:i9 w' I2 φ2 d v) {x:D×i0} (hk' :cd6 d s σ=some x):
  ∃φ' Im',Nx w Im φ σ w' Im' φ' x.2∧i9 w' Im' φ' x.1 v:=by
 have hN:∀c,I2 c→Im c∨w.heap.size≤c:=fun c hc=>by
  rcases ht.imN c hc with h | h | h
  ·exact .inl h
  ·exact absurd h (aR3 c)
  ·exact .inr h
 obtain⟨n1,n2⟩:=hi.past ht h2 ht.im hN
 cases s with
 | nil=>
  have:φ2= []:=List.eq_nil_of_length_eq_zero (by rw[h2.len];rfl)
  subst this
  obtain rfl:=Option.some.inj hk'
  exact⟨φ,I2,⟨n7.refl _,Nat.le_refl _,n2,n1⟩,hr.mono (fun _ h=>h) (fun _ _=>rfl) (n7.nil _)⟩
 | cons b s=>
  simp only[cd6] at hk'
  split at hk'
  ·rename_i d' s' e1 e2
   obtain rfl:=Option.some.inj hk'
   have hdis:∀c,Own φ2 (b::s) c→¬Own φ σ c:=fun c hc ho=>by
    rcases ht.own c hc with h | h
    ·exact aR3 c h
    ·have:=hi.own_lt ho;omega
   obtain⟨j1,j2,j3⟩:=n1.join h2 hdis e2
   refine⟨_,I2,⟨n7.append _ _,by simp,⟨n2.ext,fun c hc=> ?_,fun b hb=>by rw[List.getElem?_append_left hb],n2.im,n2.imN⟩,j1⟩,j3 d d' v hr e1⟩
   rcases j2 c hc with h | h
   ·exact .inl h
   ·rcases ht.own c h with h | h
    ·exact absurd h (aR3 c)
    ·exact .inr h
  ·cases hk'
theorem cK0 (hgl:GlOk E w Im) (hi:Inv w Im φ σ) {f:FuncId}{args:List D}{vs:Array Value} (hargs:K4 w Im φ args vs.toList) {p:du9} (h:bD1 E f args σ=some p) (hneed:∀b∈p.ns,b=true) {Qc:D→i0→Prop} (hs:i7 E f p.args p.sub Qc):
  Calls E.P f vs w fun e w' =>∃v d s,e=.returned v∧Qc d s∧∀x,p.back d s=some x→∃φ' Im',Nx w Im φ σ w' Im' φ' x.2∧i9 w' Im' φ' x.1 v:=by
 unfold bD1 at h
 split at h
 ·rename_i args' hm
  obtain rfl:=Option.some.inj h
  refine(hs w Im [] vs hgl (Inv.nil hi.im) (bd0 hm hargs (fun d d' v a b=>bv4 q9 d d' v a b))).mono ?_
  rintro e w' ⟨v,d,s,φ2,I2,rfl,ht,h2,hr,hq⟩
  exact⟨v,d,s,rfl,hq,fun x hx=>dB3 hi ht h2 hr hx⟩
 ·simp only[Bool.cond_eq_ite] at h
  split at h
  ·split at h
   ·rename_i args' sub h1 h2 h3
    obtain rfl:=Option.some.inj h
    simp only[Bool.and_eq_true] at h1
    obtain⟨h0,h0'⟩:=h1
    obtain⟨hnd,-⟩:=cd4 h0
    obtain⟨p1,p2⟩:=hi.pick hnd rfl h3
    refine(hs w Im _ vs hgl p1 (bd0 h2 hargs (fun d d' v a b=>aM6 (fun _ h=>h) cw3 q9 d d' v a b))).mono ?_
    rintro e w' ⟨v,d,s,φ2,I2,rfl,ht,hi2,hr,hq⟩
    refine⟨v,d,s,rfl,hq,fun x hx=> ?_⟩
    simp only at hx
    split at hx
    ·rename_i d' s' e1 e2
     split at hx
     ·rename_i hn
      obtain rfl:=Option.some.inj hx
      obtain⟨j1,j2⟩:=hi.passed hnd (fun b hb=>Nat.lt_of_succ_le (Nat.le_of_ble_eq_true (List.all_eq_true.1 h0' b hb))) h3 ht hi2 e2 (Nat.le_of_ble_eq_true hn)
      exact⟨_,_,j1,j2 d d' v hr e1⟩
     ·cases hx
    ·cases hx
   ·cases h
  ·generalize hids:aH2 σ 200 [] (args.flatMap (aD0 q9))=ids at h
   split at h
   ·rename_i args' hm0
    obtain rfl:=Option.some.inj h
    have hm:=dO1 hneed hm0
    have hir:=hi.sel (fun i=>ids.contains i)
    have hgv:=hi.give (fun i=>ids.contains i)
    generalize D5 (fun i=>ids.contains i) 0 σ=σr at hm hir hgv
    have hIm:∀c,Im c→(Im c∨Own φ σr c):=fun c h=> .inl h
    have hfr:∀d d' v,i9 w Im φ d v→frz σr 0 d=some d' →i9 w (fun c=>Im c∨Own φ σr c) [] d' v:=fun d d' v a b=>by
     have hown:∀(b:Nat) (B:G7) (l:Loc),0≤b→sget σr b=some B→φ[b]? =some l→0<l.size→(fun c=>Im c∨Own φ σr c) l.blk:=fun b B l _ a2 a3 hp=> .inr ⟨b,B,l,a3,a2,rfl,hp⟩
     exact bI7 hIm (fun b i o d' v a b' =>az0 hir hIm hown 6 false _ (fun _ b l hb=>by omega) _ d' v (fun _ _ _ _=>trivial) a b') (fun b i len lo ex d' v a b' =>az0 hir hIm hown 6 false _ (fun _ b l hb=>by omega) _ d' v (fun _ _ _ _=>trivial) a b') q9 d d' v a b
    refine(hs w (fun c=>Im c∨Own φ σr c) [] vs (hgl.mono (fun _ h=> .inl h) (fun _ _=>rfl)) (Inv.nil (fun c hc=>hc.elim (hi.im c) hir.own_lt)) (bd0 hm hargs hfr)).mono ?_
    rintro e w' ⟨v,d,s,φ2,I2,rfl,ht,h2,hr,hq⟩
    have ht' :Tr 0 w (fun c=>Im c∨Own φ σr c) [] [] w' I2 φ2 s:=ht
    refine⟨v,d,s,rfl,hq,fun x hx=> ?_⟩
    cases hc:(s.isEmpty&&aQ1 4 d) with
    | true=>
     simp only[hc,if_true] at hx
     obtain rfl:=Option.some.inj hx
     simp only[Bool.and_eq_true] at hc
     have hp:=hc.2
     have hsame:∀c,c<w.heap.size→w'.heap[c]? =w.heap[c]? :=fun c hc=>ht'.ext.same c hc (aR3 c)
     exact⟨φ,Im,⟨n7.refl _,Nat.le_refl _,⟨⟨ht'.ext.size,fun c hc _=>hsame c hc,ht'.ext.io⟩,fun c hc=> .inl hc,fun _ _=>rfl,fun _ h=>h,fun _ h=> .inl h⟩,
       ⟨hi.len,fun b B l a1 a2=>(hi.blk b B l a1 a2).of_heap (fun hp=>hsame _ ((hi.blk b B l a1 a2).lt hp)) ht'.ext.size (fun _ h=>h) (fun c hc=>hsame c (hi.im c hc)) (n7.refl _),hi.inj,hi.sep,fun c hc=>Nat.lt_of_lt_of_le (hi.im c hc) ht'.ext.size⟩⟩,co7 4 d v hp hr⟩
    | false=>
     simp only[hc,Bool.false_eq_true,if_false] at hx
     obtain⟨φ',Im',n,hr'⟩:=dB3 hgv.1 ht' h2 hr hx
     exact⟨φ',Im',⟨n.le,n.len,hgv.2.trans n.tr,n.inv⟩,hr'⟩
   ·cases h
theorem ei8 (hgl:GlOk E w Im) (hi:Inv w Im φ σ) {f:FuncId}{args:List D}{vs:Array Value} (hargs:K4 w Im φ args vs.toList) {k:D→i0→Qy} (h:i4 E C Q (dQ8 E f args σ k)):
  Calls E.P f vs w fun e w' =>∃v d σ' φ' Im',e=.returned v∧Nx w Im φ σ w' Im' φ' σ' ∧i9 w' Im' φ' d v∧i4 E C Q (k d σ'):=by
 unfold dQ8 at h
 split at h
 ·rename_i p hp
  obtain⟨hneed,h⟩:=br6 h
  obtain⟨Qc,hs,hk⟩:=h
  refine(cK0 hgl hi hargs hp hneed hs).mono ?_
  rintro e w' ⟨v,d,s,rfl,hq,hx⟩
  have hk' :=hk d s hq
  simp only at hk'
  cases hb:p.back d s with
  | none=>rw[hb] at hk';exact hk'.elim
  | some x=>
   rw[hb] at hk'
   obtain⟨φ',Im',n,hr⟩:=hx x hb
   exact⟨v,x.1,x.2,φ',Im',rfl,n,hr,hk'⟩
 ·exact h.elim
end
section
variable {E : L6} {C C' : Cx} {Q : D → i0 → Prop} {w w' : World} {Im Im' : Nat → Prop} {φ φ' : y0} {σ σ' : i0}
theorem U7.get {ln s:i0} (h:U7 ln s) {b:Nat} (hb:b<ln.length):s[b]? =ln[b]? :=by
 unfold U7 at h
 have:(s.take ln.length)[b]? =ln[b]? :=by rw[h]
 rwa [List.getElem?_take,if_pos hb] at this
theorem U7.sget {ln s:i0} (h:U7 ln s) {b:Nat} (hb:b<ln.length):sget s b=sget ln b:=by
 unfold Go.RX.sget
 rw[h.get hb]
theorem ce2 {s:i0}{b:Nat}{B:G7} (h:sget s b=some B):b<s.length:=by
 rw[R5] at h
 exact(List.getElem?_eq_some_iff.1 h).1
theorem Inv.first (hi:Inv w Im φ σ) {ln:i0}{φ0:y0} (hl:U7 ln σ) (hp:n7 φ0 φ) (hn:φ0.length=ln.length) (hc:ca2 ln):Inv w Im φ0 ln∧∀c,Own φ0 ln c→Own φ σ c:=by
 have hown:∀c,Own φ0 ln c→Own φ σ c:=fun c ⟨b,B,l,h1,h2,h3⟩=>⟨b,B,l,hp b l h1,by rw[hl.sget (ce2 h2)];exact h2,h3⟩
 have hg:∀{b:Nat}{B:G7},Go.RX.sget ln b=some B→Go.RX.sget σ b=some B:=fun {b B} h=>by rw[hl.sget (ce2 h)];exact h
 refine⟨⟨hn,fun b B l h1 h2=> ?_,fun b b' B B' l l' hne h1 h2 h3 h4 p1 p2=>hi.inj b b' B B' l l' hne (hp _ _ h1) (hp _ _ h2) (hg h3) (hg h4) p1 p2,fun c h1 h2=>hi.sep c h1 (hown c h2),hi.im⟩,hown⟩
 obtain⟨B0,hB0,hm⟩:=(S0 hc).2 b B h1
 refine aG2 (fun _ h=>h) (fun d d' v a b' =>aM6 (fun _ h=>h) (fun b1 c1 l1 e1 e2=> ?_) q9 d d' v a b') (aV5 (aT1 _) q9) hm (hi.blk b B0 l (hg hB0) (hp _ _ h2))
 simp only[idH,Bool.cond_eq_ite] at e1
 split at e1
 ·rename_i hb
  obtain rfl:=Option.some.inj e1
  have hlt:b1<φ0.length:=by rw[hn];exact Nat.lt_of_succ_le (Nat.le_of_ble_eq_true hb)
  have h3:φ0[b1]? =some φ0[b1]:=List.getElem?_eq_getElem hlt
  rw[h3,←e2,hp _ _ h3]
 ·cases e1
theorem Inv.partner (hi:Inv w Im φ σ) {ln:i0}{φ0:y0} (hl:U7 ln σ) (hp:n7 φ0 φ) (hn:φ0.length=ln.length) (hc:ca2 ln) {X X' :Nat→Prop} (hx:XOk w Im X) (hd:∀c,X c→¬Own φ σ c) (h:dv8 (fun c=>X c∨Own φ0 ln c) w Im w' Im' X')
  (h2:Inv w' Im' φ0 ln) (h3:∀c,X' c→¬Own φ0 ln c):Inv w' Im' φ σ∧(∀c,X' c→¬Own φ σ c)∧∀c,Im c→w'.heap[c]? =w.heap[c]? :=by
 obtain⟨f1,f2⟩:=hi.first hl hp hn hc
 have hIm:∀c,Im c→w'.heap[c]? =w.heap[c]? :=fun c hc=>h.same c (hi.im c hc) fun hX=>hX.elim (fun hX=>hx.im c hX hc) (f1.sep c hc)
 --a block of the store:lent,or far from those
 have hcase:∀b B l,sget σ b=some B→φ[b]? =some l→0<l.size→(sget ln b=some B∧φ0[b]? =some l)∨¬Own φ0 ln l.blk:=fun b B l a1 a2 a3=>by
  by_cases hb:b<ln.length
  ·left
   have hlt:b<φ0.length:=by omega
   have e3:φ0[b]? =some φ0[b]:=List.getElem?_eq_getElem hlt
   have e4:=hp _ _ e3
   rw[a2] at e4
   refine⟨by rw[←hl.sget hb];exact a1,by rw[e3,←e4]⟩
  ·right
   rintro ⟨b',B',l',e1,e2,e3,e4⟩
   have hb' :=ce2 e2
   exact hi.inj b' b B' B l' l (by omega) (hp _ _ e1) a2 (by rw[hl.sget hb'];exact e2) a1 e4 a3 e3
 refine⟨⟨hi.len,fun b B l a1 a2=> ?_,hi.inj,fun c hc ho=> ?_,h.imS⟩,fun c hc ho=> ?_,hIm⟩
 ·by_cases hb:b<ln.length
  ·have hlt:b<φ0.length:=by omega
   have e3:φ0[b]? =some φ0[b]:=List.getElem?_eq_getElem hlt
   have e4:=hp _ _ e3
   rw[a2] at e4
   have hk:=h2.blk b B l (by rw[←hl.sget hb];exact a1) (by rw[e3,←e4])
   exact hk.of_heap (fun _=>rfl) (Nat.le_refl _) (fun _ h=>h) (fun _ _=>rfl) hp
  ·have hk:=hi.blk b B l a1 a2
   refine hk.of_heap (fun hpos=>h.same _ (hk.lt hpos) fun hX=>hX.elim (fun hX=>hd _ hX ⟨b,B,l,a2,a1,rfl,hpos⟩) fun hX=> ?_) h.size h.im hIm (n7.refl _)
   rcases hcase b B l a1 a2 hpos with⟨g1,_⟩ | g
   ·exact hb (ce2 g1)
   ·exact g hX
 ·obtain⟨b,B,l,a1,a2,rfl,hpos⟩:=ho
  rcases hcase b B l a2 a1 hpos with⟨g1,g2⟩ | g
  ·exact h2.sep _ hc ⟨b,B,l,g2,g1,rfl,hpos⟩
  ·rcases h.imN _ hc with h1 | h1 | h1
   ·exact hi.sep _ h1 ⟨b,B,l,a1,a2,rfl,hpos⟩
   ·exact h1.elim (fun h1=>hd _ h1 ⟨b,B,l,a1,a2,rfl,hpos⟩) g
   ·have:=(hi.blk b B l a2 a1).lt hpos;omega
 ·obtain⟨b,B,l,a1,a2,rfl,hpos⟩:=ho
  rcases hcase b B l a2 a1 hpos with⟨g1,g2⟩ | g
  ·exact h3 _ hc ⟨b,B,l,g2,g1,rfl,hpos⟩
  ·rcases h.xN _ hc with h1 | h1
   ·exact h1.elim (fun h1=>hd _ h1 ⟨b,B,l,a1,a2,rfl,hpos⟩) g
   ·have:=(hi.blk b B l a2 a1).lt hpos;omega
theorem Mv.yield (hit:C.it=true) (hrb:C.rb=false) (hi:Inv w Im φ σ) {Y:Option (List (List D))}{n0:Nat}{G X X' :Nat→Prop} (hq:n7 C.lp0 φ∧C.lp0.length=C.ln.length∧C.lp0.length≤C.m∧ca2 C.ln) (hl:U7 C.ln σ) (hp:cv7 E.P C.lp C.J n0 G C.lp0 C.ln) (h1:n0≤w.heap.size) (h2:∀c,Own φ σ c→G c∨n0≤c) (hx:XOk w Im X) (hd:∀c,X c→¬Own φ σ c)
  (hJ:C.J Y w' Im' X') (h:dv8 (fun c=>X c∨Own C.lp0 C.ln c) w Im w' Im' X') (h4:Inv w' Im' C.lp0 C.ln) (h5:∀c,X' c→¬Own C.lp0 C.ln c):Mv E C w Im φ σ (C.tell Y) w' Im' φ σ:=by
 obtain⟨p1,p2,p3⟩:=hi.partner hl hq.1 hq.2.1 hq.2.2.2 hx hd h h4 h5
 refine⟨n7.refl _,Nat.le_refl _,h.im,p3,p1,fun lo ds hs=>⟨Nat.le_trans hs.low h.size,hs.gl.mono h.im p3,fun _=>⟨hq,n0,G,X',hp,Nat.le_trans h1 h.size,h2,h.ok,p2,hJ⟩,?_⟩,⟨Y,rfl⟩,fun lo Q e a w2 hd=>⟨fun hr=> ?_,fun hr=> ?_⟩⟩
 ·obtain⟨Ds,hm⟩:=hs.mks
  obtain rfl:=hm.none hit
  exact⟨[],hm.eq,fun _=>rfl,List.nodup_nil,fun b hb=>by simp at hb⟩
 ·rw[hrb] at hr;cases hr
 ·obtain⟨g1,Ds,g3,g4,g5,g6,g7⟩:=hd.2 hr
  refine⟨g1,Ds,g3,g4,g5,g6,fun w'' hs=> ?_⟩
  obtain⟨v,d,s,p,I,k1,k2,k3,k4,k5,k6⟩:=g7 w'' hs
  refine⟨v,d,s,p,I,k1,fun hh=> ?_,k3,k4,k5,k6⟩
  rw[hit] at hh;cases hh
theorem br3 {ks:Bool}{F:Fence}{nf:Nat} (hF:OkC C F) {lo:Nat}{ds:List Deferred} (hi:Inv w Im φ σ) (hm:C.m≤φ.length) (hsd:cK6 E C lo w Im φ σ ds) {o:Oper} (hnd:∀c,o.op≠.defer c) {a:Act}{k:D→i0→Qy}{next:Act→World→Prop}{R:Exit→Act→World→Prop}
  (hk:∀v d σ' C' w' Im' φ',Mv E C w Im φ σ C' w' Im' φ' σ' →i9 w' Im' φ' d v→i4 E C' Q (k d σ')→next (a.put o.dst v) w'):
  ∀(r:A3),aP0 E.P w Im φ σ (execOp a.eval o) r→i4 E C Q (conv E false ks k σ r)→o.wpIn F nf E.P a w next R
 | .ok d σ',⟨v,w',φ',h1,h2⟩,h=>by
  have:=hk v d σ' C w' Im φ' ((h2.nx h2.le.length).mv hi hm) h2.rel h
  refine hF.ok.wp hnd ?_
  unfold Oper.wp
  rcases h1 with h1 | ⟨h1,rfl⟩
  ·rw[h1];exact this
  ·rw[h1];exact this
 | .need b q,hs,h=>br3 hF hi hm hsd hnd hk q (hs h.1) h.2
 | .split b q,hs,h=>br3 hF hi hm hsd hnd hk (q b) hs h
 | .row r q,hs,h=>let ⟨x,hx,h'⟩:=h;br3 hF hi hm hsd hnd hk (q x) (hs x hx) h'
 | .rows r q,hs,h=>br3 hF hi hm hsd hnd hk (q r) hs h
 | .any p q,hs,h=>let ⟨b,hb,h'⟩:=hs;br3 hF hi hm hsd hnd hk (q b) h' (h b hb)
 | .str r q,hs,h=>let ⟨x,hx,h'⟩:=h;br3 hF hi hm hsd hnd hk (q x) (hs x hx) h'
 | .call f args,⟨vs,h1,h2,h3⟩,h=>by
  refine hF.ok.wp hnd ?_
  unfold Oper.wp
  rw[h1]
  refine(ei8 hsd.gl hi (vs:=vs) ⟨by simpa using h2,fun i d v a b=>h3 i d v a (by simpa using b)⟩ h).mono ?_
  rintro e w' ⟨v,d,σ',φ',Im',rfl,n,hr,hq⟩
  exact hk v d σ' C w' Im' φ' (n.mv hi hm) hr hq
 | .yld l args,⟨vs,h1,h2,h3⟩,h=>by
  simp only[conv,cond_false] at h
  split at h
  ·rename_i y hy
   obtain⟨hit,hrb,rfl,hlt,Y,hY,q1,q2⟩:=h
   obtain⟨hph,n0,G,X,hp,g1,g2,g3,g4,g5⟩:=hsd.an hit
   obtain⟨f1,f2⟩:=hi.first hlt hph.1 hph.2.1 hph.2.2.2
   have hy' :K4 w Im [] y vs.toList:=bd0 hy ⟨by simpa using h2,fun i d v a b=>h3 i d v a (by simpa using b)⟩ (fun d d' v a b=>bv4 q9 d d' v a b)
   rw[hY] at g5
   obtain⟨fn,tmps,asg,body,y1,y2⟩:=hp.yields y Y w Im X vs g5 g3 hi.im hy' f1 (fun c hc ho=>g4 c hc (f2 c ho))
   obtain rfl:=hF.1 hrb
   refine⟨fun f _=>trivial,?_⟩
   rw[Oper.semAt_eq _ _ _ hnd,h1,y1]
   refine⟨fun hd=>absurd hd (by simp[Fence.wide]),?_⟩
   have y3:RoundIn Fence.wide (nf-1) E.P C.lp fn tmps asg body w _:=⟨y2.1,fun c cs _=>y2.2 c cs (room_wide _)⟩
   refine y3.mono ?_
   rintro e w' ⟨b,Im',X',rfl,hJ,hs,hs4,hs5⟩
   have mv:∀Y',C.J Y' w' Im' X' →Mv E C w Im φ σ (C.tell Y') w' Im' φ σ:=fun Y' hJ' =>Mv.yield hit hrb hi hph hlt hp g1 g2 g3 g4 hJ' hs hs4 hs5
   cases b with
   | true=>exact hk _ _ _ _ _ _ _ (mv _ hJ) (.bool true) q1
   | false=>exact hk _ _ _ _ _ _ _ (mv _ hJ) (.bool false) q2
  ·exact h.elim
 | .bad,_,h=>h.elim
theorem aS2.step {lo:Nat}{fr:Fr}{a:Act} (h:aS2 E C lo w Im φ fr σ a) (n:Mv E C w Im φ σ C' w' Im' φ' σ') {dst:Option Nat} (hd:bO9 C.fn.ntmps dst=true) {d:D}{v:Value} (hr:i9 w' Im' φ' d v) {fr' :Fr}
  (hfr:∀t,i9 w Im φ (v8 fr' t) (a.tmps.getD t undef)):aS2 E C' lo w' Im' φ' (put fr' dst d) σ' (a.put dst v):=by
 obtain⟨Y,rfl⟩:=n.cx
 exact⟨cY2 (fun t=>n.rel (hfr t)) h.sz hd hr,n.inv,by rw[ee9];exact n.sd _ _ h.sd,by rw[dG6];exact h.sz,Nat.le_trans h.m n.len⟩
theorem Mv.refl (hi:Inv w Im φ σ):Mv E C w Im φ σ C w Im φ σ:=
 ⟨n7.refl _,Nat.le_refl _,fun _ h=>h,fun _ _=>rfl,hi,fun _ _ h=>h,⟨C.Y,rfl⟩,fun _ _ _ _ _ h=>h⟩
theorem ec8 {fr:Fr}{a:Nat→Value} (h:∀t,i9 w Im φ (v8 fr t) (a t)) {s:Nat}{b:Bool} (hb:v8 fr s=.bool b) (t:Nat):i9 w Im φ (v8 (az9 fr s (.bool b)) t) (a t):=by
 simp only[az9,v8,Bool.cond_eq_ite]
 split
 ·rename_i he
  have:=Nat.eq_of_beq_eq_true he
  subst this
  have:=h s
  rw[hb] at this
  exact this
 ·exact h t
theorem cN6 {all:List Oper}{j s:Nat} (hs:(match all[j]? with | some g=>g.dst | none=>none)=some s):((all.toArray[j]?).bind (·.dst))=some s:=by
 rw[←hs];simp only[List.getElem?_toArray];cases all[j]? <;>rfl
theorem cg3 {all:List Oper}{a:Act}{j s:Nat}{b:Bool} (hs:(match all[j]? with | some g=>g.dst | none=>none)=some s) (hv:a.tmps.getD s undef=.bool b):yielded all.toArray a.tmps j=some b:=by
 have hlt:s<a.tmps.size:=by
  rcases Nat.lt_or_ge s a.tmps.size with hlt | hge
  ·exact hlt
  ·exfalso
   have:a.tmps.getD s undef=undef:=by simp[Array.getD,Nat.not_lt.2 hge]
   rw[this] at hv;cases hv
 have h1:a.tmps[s]? =some (.bool b):=by rw[←hv];simp[hlt]
 unfold yielded
 rw[cN6 hs]
 simp only[Option.bind_some,h1]
theorem dj1 {all:List Oper}{a:Act}{j s:Nat}{us:Array Value} (hs:(match all[j]? with | some g=>g.dst | none=>none)=some s) (hv:a.tmps.getD s undef=.tuple us):yielded all.toArray a.tmps j=none:=by
 unfold yielded
 rw[cN6 hs]
 simp only[Option.bind_some]
 by_cases hlt:s<a.tmps.size
 ·have h1:a.tmps[s]? =some (.tuple us):=by rw[←hv];simp[hlt]
  rw[h1]
 ·have h1:a.tmps[s]? =none:=by simp;omega
  rw[h1]
theorem co5 {P:Program}{ρ:Operand→D}{o:Oper}{s:i0}{c:Call} (h:o.op=.defer c):aop P ρ o s=.bad:=by
 unfold aop;rw[h]
theorem dX5 {F:Fence}{n:Nat} (hF:OkC C F) {lo:Nat}{fr:Fr}{a:Act} (h:aS2 E C lo w Im φ fr σ a) {all:List Oper}{o:Oper}{rest:List Oper}{R:Exit→Act→World→Prop}{k:Fr→i0→Qy}
  (hk:∀C' fr' σ' w' Im' φ' a',Mv E C w Im φ σ C' w' Im' φ' σ' →aS2 E C' lo w' Im' φ' fr' σ' a' →i4 E C' Q (k fr' σ')→wpListIn F n E.P all.toArray R rest a' w')
  (hq:i4 E C Q (bU4 E false C.fn.ntmps all o fr σ k)):wpListIn F n E.P all.toArray R (o::rest) a w:=by
 unfold bU4 at hq
 cases hd:bO9 C.fn.ntmps o.dst with
 | false=>simp only[hd,cond_false] at hq;exact hq.elim
 | true=>
  simp only[hd,cond_true,Bool.false_and,cond_false] at hq
  have hnx:Mv E C w Im φ σ C w Im φ σ:=.refl h.inv
  have run:∀fr',(∀t,i9 w Im φ (v8 fr' t) (a.tmps.getD t undef))→i4 E C Q (conv E false (kOp E.kp o.op) (fun d s=>k (put fr' o.dst d) s) σ (aop E.P (I8 E.gl fr') o σ))→o.wpIn F n E.P a w (wpListIn F n E.P all.toArray R rest) R:=fun fr' hfr' hq' =>
   br3 hF h.inv h.m h.sd (fun c hc=>by rw[co5 hc] at hq';exact hq'.elim) (fun v d σ' C' w' Im' φ' n hr hq=>hk C' _ σ' w' Im' φ' _ n (h.step n hd hr hfr') hq) _ (bY5 h.inv (fun x=>aS3 h.sd.gl hfr' x) o) hq'
  have skip:∀fr',(∀t,i9 w Im φ (v8 fr' t) (a.tmps.getD t undef))→i4 E C Q (k (put fr' o.dst (.tup [])) σ)→wpListIn F n E.P all.toArray R rest (a.put o.dst undef) w:=fun fr' hfr' hq' =>
   hk C _ σ w Im φ _ hnx (h.step hnx hd (.tup [] #[] rfl (fun i d v a=>by simp at a)) hfr') hq'
  simp only[wpListIn]
  cases hg:o.guard with
  | none=>
   simp only[hg] at hq
   rw[if_pos (by simp[Region.wanted,hg])]
   exact run fr h.fr hq
  | some gw=>
   obtain⟨j,want⟩:=gw
   simp only[hg] at hq
   split at hq
   ·exact hq.elim
   ·rename_i s hs
    have hrs:=h.fr s
    split at hq
    ·rename_i b hb
     rw[hb] at hrs
     have hv:=hrs.bool_inv
     have hy:=cg3 (j:=j) hs hv
     have hq' :i4 E C Q (bif b==want then conv E false (kOp E.kp o.op) (fun d st=>k (put (az9 fr s (.bool b)) o.dst d) st) σ (aop E.P (I8 E.gl (az9 fr s (.bool b))) o σ) else k (put (az9 fr s (.bool b)) o.dst (.tup [])) σ):=hq
     have hfr' :=ec8 h.fr hb
     have hwant:Region.wanted o (yielded all.toArray a.tmps)=(b==want):=by
      simp only[Region.wanted,hg,hy]
      cases b<;>cases want<;>rfl
     rw[hwant]
     cases hbw:(b==want) with
     | true=>
      rw[hbw] at hq'
      rw[if_pos rfl]
      exact run _ hfr' hq'
     | false=>
      rw[hbw] at hq'
      rw[if_neg (by simp)]
      exact⟨fun f _=>hF.ok.fn f,skip _ hfr' hq'⟩
    ·rename_i vs hb
     rw[hb] at hrs
     obtain⟨us,hv,_⟩:=hrs.tup_inv
     have hy:=dj1 (j:=j) hs hv
     have hwant:Region.wanted o (yielded all.toArray a.tmps)=false:=by
      simp only[Region.wanted,hg,hy]
      cases want<;>rfl
     rw[hwant,if_neg (by simp)]
     exact⟨fun f _=>hF.ok.fn f,skip fr h.fr hq⟩
    ·exact hq.elim
theorem dS7 {F:Fence}{n:Nat}{P:Program}{c:Code}{R:Exit→Act→World→Prop}{a:Act} (h:cs8 F n P c R a w):(Code.loop c).wpIn F n P R a w:=fun b k cs hro hb hr=>
 let ⟨e,a',w',q,r⟩:=h b k cs hro hb hr
 ⟨e,a',w',q,.of_steps (.one (fenced_calm hb hr rfl) stepR_loop) r⟩
theorem dA8 {F:Fence}{n:Nat}{P:Program}{c:Code}{R:Exit→Act→World→Prop}{a:Act} (h:c.wpIn F n P (Exit.then (cs8 F n P c R) R) a w):cs8 F n P c R a w:=by
 intro b k cs hro hb hr
 obtain⟨e,a₁,w₁,hq,harr⟩:=h b (.inLoop c::k) cs hro hb hr
 cases e with
 | normal=>
  obtain⟨e₂,a₂,w₂,hq₂,harr₂⟩:=hq b k cs hro hb hr
  exact⟨e₂,a₂,w₂,hq₂,.of_steps (StepsIn.trans harr (.one (fenced_calm hb hr rfl) stepR_inLoop)) harr₂⟩
 | exit id=>exact⟨_,a₁,w₁,hq,.pass (x:=.inLoop c) rfl (fun _ _=> .inl (by simp)) harr⟩
 | goto l=>exact⟨_,a₁,w₁,hq,.pass (x:=.inLoop c) rfl (fun _ _=> .inl (by simp)) harr⟩
 | ret=>exact⟨_,a₁,w₁,hq,.pass (x:=.inLoop c) rfl (fun _ _=> .inl (by simp)) harr⟩
 | panic ch=>exact⟨_,a₁,w₁,hq,.pass (x:=.inLoop c) rfl (fun _ _=> .inl (by simp)) harr⟩
 | outgrown=>exact⟨_,a₁,w₁,hq,.pass (x:=.inLoop c) rfl (fun _ _=> .inl (by simp)) harr⟩
theorem cm3 {F:Fence}{n:Nat}{P:Program}{c:Code}{R:Exit→Act→World→Prop}{a:Act} (h:c.wpIn F n P (Exit.noGoto R) a w):(Code.scope c).wpIn F n P R a w:=by
 intro b k cs hro hb hr
 have h1:step P (lone (b.atR a (.code (.scope c)::k)) cs w)=.next (lone (b.atR a (.code c::.inScope c::k)) cs w):=
  step_lone_go (by simp[stepG,stepG.exec,Frame.atR])
 have h2:∀a w,step P (lone (b.atR a (.inScope c::k)) cs w)=.next (lone (b.atR a k) cs w):=fun a w=>
  step_lone_go (by simp[stepG,stepG.exec,Frame.atR])
 have h0:(lone (b.atR a (.code (.scope c)::k)) cs w).fenced P F:=fenced_calm hb hr rfl
 obtain⟨e,a₁,w₁,hq,harr⟩:=h b (.inScope c::k) cs hro hb hr
 cases e with
 | normal=>exact⟨.normal,a₁,w₁,hq,.head h0 h1 (StepsIn.trans harr (.one (fenced_calm hb hr rfl) (h2 _ _)))⟩
 | exit id=>exact⟨.exit id,a₁,w₁,hq,fun k' hk=> .head h0 h1 (harr.1 k' (by simp[exitTo,hk])),fun hr' hk=>let ⟨k₁,g1,g2⟩:=harr.2 hr' (by simp[exitTo,hk]);⟨k₁,g1,.head h0 h1 g2⟩⟩
 | goto l=>exact hq.elim
 | ret=>exact⟨_,a₁,w₁,hq,.of_steps (.one h0 h1) harr⟩
 | panic ch=>exact⟨_,a₁,w₁,hq,.of_steps (.one h0 h1) harr⟩
 | outgrown=>exact⟨_,a₁,w₁,hq,.of_steps (.one h0 h1) harr⟩
theorem br0 {F:Fence}{n:Nat}{P:Program}{R:Exit→Act→World→Prop}:∀(t:List It) (a:Act) (w:World),R .ret a w→sem F n P R t .ret a w
 | [],_,_,h=>h
 | .blk _::t,a,w,h=>br0 t a w h
 | .sc::t,a,w,h=>br0 t a w h
 | .code _::t,a,w,h=>br0 t a w h
 | .lp _ _::t,a,w,h=>br0 t a w h
 | .lpc _ _::t,a,w,h=>br0 t a w h
 | .ops _ _::t,a,w,h=>br0 t a w h
theorem bc1 {F:Fence}{n:Nat}{P:Program}{R:Exit→Act→World→Prop}{id:Nat}:∀(t t' :List It) (a:Act) (w:World),bQ7 id t=some t' →sem F n P R t' .normal a w→sem F n P R t (.exit id) a w
 | [],_,_,_,h,_=>by simp[bQ7] at h
 | .blk j::t,t',a,w,h,hs=>by
  simp only[bQ7,Bool.cond_eq_ite] at h
  split at h
  ·rename_i hj
   obtain rfl:=Option.some.inj h
   have hj' :=Nat.eq_of_beq_eq_true hj
   simp only[sem,Exit.inBlock]
   rw[if_pos hj'.symm]
   exact hs
  ·rename_i hj
   simp only[sem,Exit.inBlock]
   rw[if_neg (fun e=>hj (by rw[e];exact Nat.beq_refl j))]
   exact bc1 t t' a w h hs
 | .sc::t,t',a,w,h,hs=>bc1 t t' a w h hs
 | .code _::t,t',a,w,h,hs=>bc1 t t' a w h hs
 | .lp _ _::t,t',a,w,h,hs=>bc1 t t' a w h hs
 | .lpc _ _::t,t',a,w,h,hs=>bc1 t t' a w h hs
 | .ops _ _::t,t',a,w,h,hs=>bc1 t t' a w h hs
end
section
variable {E : L6} {C : Cx} {Q : D → i0 → Prop} {w w' : World} {Im Im' : Nat → Prop} {φ φ' : y0} {σ σ' : i0}
theorem br4 {s:Sem Value}{k:D→i0→Qy} (hk:∀d σ1 σ2,k d σ1=k d σ2):∀(r:A3),aD6 E.P w Im φ s r→i4 E C Q (conv E true false k σ r)→∃v d,s.run E.P w=.ok v w∧i9 w Im φ d v∧i4 E C Q (k d σ)
 | .ok d σ',⟨v,h1,h2⟩,h=>⟨v,d,h1,h2,by rw[hk d σ σ'];exact h⟩
 | .need b q,hs,h=>br4 hk q (hs h.1) h.2
 | .split b q,hs,h=>br4 hk (q b) hs h
 | .row r q,hs,h=>let ⟨x,hx,h'⟩:=h;br4 hk (q x) (hs x hx) h'
 | .rows r q,hs,h=>br4 hk (q r) hs h
 | .any p q,hs,h=>h.elim
 | .str r q,hs,h=>let ⟨x,hx,h'⟩:=h;br4 hk (q x) (hs x hx) h'
 | .call f args,hs,h=>hs.elim
 | .bad,_,h=>h.elim
def dw7 (tmps:Array Value):ResultVar→Sem Value
 | .tmp t=>pure (tmps.getD t undef)
 | .cell c t=>do loadVar t (←asAddr (tmps.getD c undef))
theorem dT5 (fn:Func) (tmps:Array Value):results fn tmps=(do let vs ←fn.results.mapM (dw7 tmps);pure (if h:vs.size=1 then vs[0] else .tuple vs)):=by
 unfold results
 have:(fun(x:ResultVar)=>match x with | .tmp t=>(pure (tmps.getD t undef):Sem Value) | .cell a t=>do loadVar t (←asAddr (tmps.getD a undef)))=dw7 tmps:=by
  funext x;cases x<;>rfl
 rw[←this]
 rfl
theorem dC8 (hi:Inv w Im φ σ) {fr:Fr}{a:Act} (hfr:∀t,i9 w Im φ (v8 fr t) (a.tmps.getD t undef)):∀(rs:List ResultVar) (acc:List D) (k:List D→Qy),i4 E C Q (dE4 E rs acc fr σ k)→
  ∃(ds:List D) (vs:List Value),(rs.mapM (dw7 a.tmps)).run E.P w=.ok vs w∧K4 w Im φ ds vs∧i4 E C Q (k (acc++ds))
 | [],acc,k,h=>⟨[],[],by simp,⟨rfl,fun i d v a=>by simp at a⟩,by rw[List.append_nil];exact h⟩
 | .tmp t::rs,acc,k,h=>by
  obtain⟨ds,vs,h1,h2,h3⟩:=dC8 hi hfr rs (acc++ [v8 fr t]) k h
  refine⟨v8 fr t::ds,a.tmps.getD t undef::vs,by simp only[List.mapM_cons,Sem.run_bind,dw7,Sem.run_pure,Result.andThen_ok,h1],⟨by simp[h2.1],fun i d v e1 e2=> ?_⟩,by simpa using h3⟩
  cases i with
  | zero=>simp only[List.getElem?_cons_zero,Option.some.injEq] at e1 e2;subst e1;subst e2;exact hfr t
  | succ i=>exact h2.2 i d v (by simpa using e1) (by simpa using e2)
 | .cell c t::rs,acc,k,h=>by
  simp only[dE4] at h
  obtain⟨v,d,g1,g2,g3⟩:=br4 (fun d σ1 σ2=>rfl) _ (dm4 (P:=E.P) hi (hfr c) (t:=t)) h
  obtain⟨ds,vs,h1,h2,h3⟩:=dC8 hi hfr rs (acc++ [d]) k g3
  have hl:(dw7 a.tmps (.cell c t)).run E.P w=.ok v w:=by
   show((asAddr (a.tmps.getD c undef))>>=fun x=>loadVar t x).run E.P w=_
   unfold Instr.loadAt at g1
   simp only[Sem.run_bind] at g1 ⊢
   cases hc:a.tmps.getD c undef with
   | pointer p=>
    cases p with
    | none=>rw[hc] at g1;simp[Instr.sureAddr,stuck] at g1
    | some p=>rw[hc] at g1;exact g1
   | _=>rw[hc] at g1;simp[Instr.sureAddr,stuck] at g1
  refine⟨d::ds,v::vs,by simp only[List.mapM_cons,Sem.run_bind,hl,Result.andThen_ok,h1];rfl,⟨by simp[h2.1],fun i d' v' e1 e2=> ?_⟩,by simpa using h3⟩
  cases i with
  | zero=>simp only[List.getElem?_cons_zero,Option.some.injEq] at e1 e2;subst e1;subst e2;exact g2
  | succ i=>exact h2.2 i d' v' (by simpa using e1) (by simpa using e2)
theorem Inv.shut (hi:Inv w Im φ σ) {Ds:List Nat} (hD:∀b∈Ds,¬Im b∧¬Own φ σ b) (hs:cd0 Ds w w'):Inv w' Im φ σ∧∀c,Im c→w'.heap[c]? =w.heap[c]? :=by
 have hIm:∀c,Im c→w'.heap[c]? =w.heap[c]? :=fun c hc=>hs.same c fun hm=>(hD c hm).1 hc
 exact⟨⟨hi.len,fun b B l h1 h2=>(hi.blk b B l h1 h2).of_heap (fun hp=>hs.same _ fun hm=>(hD _ hm).2 ⟨b,B,l,h2,h1,rfl,hp⟩) (Nat.le_of_eq hs.size.symm) (fun _ h=>h) hIm (n7.refl _),hi.inj,hi.sep,fun c hc=>by rw[hs.size];exact hi.im c hc⟩,hIm⟩
theorem cd0.refl (Ds:List Nat) (w:World):cd0 Ds w w:=⟨rfl,fun _ _=>rfl,Io.refl w⟩
theorem Tr.back {k:Nat} (h:Tr k w' Im φ σ w' Im' φ' σ') (hs:w'.heap.size=w.heap.size):Tr k w Im φ σ w Im' φ' σ' :=
 ⟨⟨Nat.le_refl _,fun _ _ _=>rfl,Io.refl _⟩,fun c hc=>by rw[←hs];exact h.own c hc,h.pre,h.im,fun c hc=>by rw[←hs];exact h.imN c hc⟩
theorem dX4 {fr:Fr}{a:Act} (hfr:∀t,i9 w Im φ (v8 fr t) (a.tmps.getD t undef)) (hi:Inv w Im φ σ) (hm:C.m≤φ.length) (hq:i4 E C Q (cn1 E C fr σ)):
  C.fin∧∃v d σ' φ' Im',(results C.fn a.tmps).run E.P w=.ok v w∧Tr C.m w Im φ σ w Im' φ' σ' ∧Inv w Im' φ' σ' ∧i9 w Im' φ' d v∧Q d σ' :=by
 obtain⟨ds,vs,h1,h2,h3⟩:=dC8 hi hfr _ _ _ hq
 simp only[List.nil_append] at h3
 have hrun:(results C.fn a.tmps).run E.P w=.ok (if hh:vs.length=1 then vs[0] else .tuple vs.toArray) w:=by
  rw[dT5,Array.mapM_eq_mapM_toList]
  simp only[Sem.run_bind,Sem.run_map,h1,Result.andThen_ok,Sem.run_pure]
  simp
 have htup:i9 w Im φ (eg6 ds) (if hh:vs.length=1 then vs[0] else .tuple vs.toArray):=by
  split
  ·rename_i hh
   have hd:ds.length=1:=by rw[h2.1,hh]
   match ds,vs,hd,hh,h2 with
   | [d],[v],_,_,h2=>exact h2.2 0 d v rfl rfl
  ·rename_i hh
   have hd:ds.length≠1:=by rw[h2.1];exact hh
   have:eg6 ds=.tup ds:=by
    match ds,hd with
    | [],_=>rfl
    | _::_::_,_=>rfl
   rw[this]
   exact .tup _ _ (by simpa using h2.1) (fun i d v e1 e2=>h2.2 i d v e1 (by simpa using e2))
 unfold eq2 at h3
 simp only[Bool.cond_eq_ite] at h3
 split at h3
 ·split at h3
  ·rename_i x s hc
   obtain⟨φ2,i1,i2,i3⟩:=bF9 hi hm hc (a:=fun _=>(if hh:vs.length=1 then vs[0] else .tuple vs.toArray)) (fun t=>by
    simp only[v8,Bool.cond_eq_ite];split;exact htup;exact .undef _)
   split at h3
   ·rename_i hx
    have hd' :=i3 0
    have hx' :=Nat.eq_of_beq_eq_true hx
    simp only[v8,hx',Nat.beq_refl,cond_true] at hd'
    exact⟨h3.1,_,x.2,s,φ2,Im,hrun,i2,i1,hd',h3.2⟩
   ·exact h3.elim
  ·exact h3.elim
 ·split at h3
  ·rename_i d' s e1' e2'
   obtain⟨hneed,h3⟩:=br6 h3
   have e1:=dG5 (fun b hb=>hneed b (List.mem_append.2 (.inl hb))) e1'
   have e2:=dV8 (fun d d' =>dG5) (fun b hb=>hneed b (List.mem_append.2 (.inr hb))) e2'
   obtain⟨φ2,I2,i1,i2,i3⟩:=ev0 hi hm htup e1 e2
   exact⟨h3.1,_,d',s,φ2,I2,hrun,i2,i1,i3,h3.2⟩
  ·exact h3.elim
theorem dY0 {lo:Nat}{fr:Fr}{a:Act} (h:aS2 E C lo w Im φ fr σ a) (hrb:C.rb=false) (hq:i4 E C Q (cn1 E C fr σ)):∀e,e=.normal∨e=.ret→aa1 E C lo Q w Im φ σ e a w:=by
 intro e he
 refine⟨fun hr=>(by rw[hrb] at hr;cases hr),fun _=>⟨he,?_⟩⟩
 obtain⟨Ds,hD⟩:=h.sd.mks
 refine⟨Ds,hD.eq,hD.none,hD.nodup,fun b hb=>⟨(hD.ok b hb).1,(hD.ok b hb).2.2.1⟩,fun w'' hs=> ?_⟩
 obtain⟨i1,i2⟩:=h.inv.shut (fun b hb=>(hD.ok b hb).2.2.2) hs
 obtain⟨k0,v,d,s,p,I,k1,k2,k3,k4,k5⟩:=dX4 (a:=a) (fun t=>(h.fr t).mono (fun _ h=>h) i2 (n7.refl _)) i1 h.m hq
 refine⟨v,d,s,p,I,k1,fun _=>k2.back hs.size,k3,k4,k5,fun hit=> ?_⟩
 obtain rfl:=hD.none hit
 have ht:Tr φ.length w Im φ σ w'' Im φ σ:=⟨⟨Nat.le_of_eq hs.size.symm,fun c hc _=>hs.same c (by simp),hs.io⟩,fun c hc=> .inl hc,fun _ _=>rfl,fun _ h=>h,fun _ h=> .inl h⟩
 have a1:=h.sd.an.tr h.m h.inv ht i1
 have a2:=a1.tr (Nat.le_refl _) i1 k2 k3
 obtain⟨⟨q1,q2,q3,q4⟩,n0,G,X,_,_,_,_,g5,g6⟩:=a2 hit
 refine⟨⟨q1,q2,q4⟩,X,?_,g5⟩
 rcases k0 hit with hf | hf
 ·exact .inl (hf▸g6)
 ·exact .inr (hf▸g6)
theorem dP7 {lo:Nat}{fr:Fr}{a:Act} (h:aS2 E C lo w Im φ fr σ a) (hrb:C.rb=true) {n:Nat} (hq:i4 E C Q (db6 C n σ)) {e:Exit} (he:cs7 e=some n):aa1 E C lo Q w Im φ σ e a w:=by
 refine⟨fun _=> ?_,fun hr=>(by rw[hrb] at hr;cases hr)⟩
 unfold db6 at hq
 split at hq
 ·rename_i x hc
  obtain⟨φ2,i1,i2,_⟩:=bF9 h.inv h.m hc (a:=fun _=>undef) (fun t=> .undef _)
  exact⟨n,x.2,φ2,Im,he,i2,i1,hq.2⟩
 ·exact hq.elim
end
section
variable {E : L6} {C : Cx} {Q : D → i0 → Prop} {w w' : World} {Im Im' : Nat → Prop} {φ φ' : y0} {σ σ' : i0}
theorem dm7 (mask:Nat) (fr:Fr):∀(l:List Nat) (t:Nat),v8 (ce0 mask fr l) t=.undef∨v8 (ce0 mask fr l) t=v8 fr t
 | [],t=> .inl rfl
 | s::l,t=>by
  have ih:=dm7 mask fr l t
  simp only[ce0,Bool.cond_eq_ite]
  split
  ·split
   ·exact ih
   ·simp only[v8,Bool.cond_eq_ite]
    split
    ·rename_i he
     have he' :=Nat.eq_of_beq_eq_true he
     subst he'
     exact .inr rfl
    ·exact ih
  ·exact ih
theorem dH0 {fr:Fr}{n k:Nat}{a:Nat→Value} (h:∀t,i9 w Im φ (v8 fr t) (a t)) (t:Nat):i9 w Im φ (v8 (bV0 n k fr) t) (a t):=by
 unfold bV0
 rcases dm7 k fr (List.range n) t with h1 | h1
 ·rw[h1];exact .undef _
 ·rw[h1];exact h t
/-! ### what an operation comes to, whichever questions are asked -/
inductive ab4 (E:L6) (ks:Bool) (σ:i0):A3→D→i0→Prop
 | ok (d:D) (s:i0):ab4 E ks σ (.ok d s) d s
 | need {b:Bool}{k:A3}{d:D}{s:i0}:b=true→ab4 E ks σ k d s→ab4 E ks σ (.need b k) d s
 | split {b:Bool}{k:Bool→A3}{d:D}{s:i0}:ab4 E ks σ (k b) d s→ab4 E ks σ (.split b k) d s
 | row {r:Option (List D)}{k:List D→A3}{x:List D}{d:D}{s:i0}:r=some x→ab4 E ks σ (k x) d s→ab4 E ks σ (.row r k) d s
 | rows {r:List (List D)}{k:List (List D)→A3}{d:D}{s:i0}:ab4 E ks σ (k r) d s→ab4 E ks σ (.rows r k) d s
 | str {r:Option (List UInt8)}{k:List UInt8→A3}{x:List UInt8}{d:D}{s:i0}:r=some x→ab4 E ks σ (k x) d s→ab4 E ks σ (.str r k) d s
 | call {f:FuncId}{args args' :List D}{d:D}:U5 (tr bD3 q9) args=some args' →bU6 E f args' d→ab4 E ks σ (.call f args) d σ
 | callB {f:FuncId}{args args' :List D}{d:D}:U5 (frz σ 0) args=some args' →bU6 E f args' d→aQ1 4 d=true→ab4 E ks σ (.call f args) d σ
 | callS {f:FuncId}{args:List D}{p:du9}{d0:D}{s0:i0}{x:D×i0}:ks=true→(E.pol f).ro=false→bD1 E f args σ=some p→(∀b∈p.ns,b=true)→(i7 E f p.args p.sub fun d' s' =>d' =d0∧s' =s0)→p.back d0 s0=some x→ab4 E ks σ (.call f args) x.1 x.2
 | callR {f:FuncId}{args:List D}{p:du9}{d0:D}{s0:i0}{x:D×i0}:ks=true→bD1 E f args σ=some p→(∀b∈p.ns,b=true)→(i7 E f p.args p.sub fun d' s' =>d' =d0∧s' =s0)→p.back d0 s0=some x→x.2.take σ.length=σ→ab4 E ks σ (.call f args) x.1 x.2
theorem aP1 {ks:Bool}{k:D→i0→Qy}:∀(r:A3),i4 E C Q (conv E true ks k σ r)→∃d s,ab4 E ks σ r d s∧i4 E C Q (k d s)
 | .ok d s,h=>⟨d,s,.ok d s,h⟩
 | .need b q,h=>let ⟨d,s,h1,h2⟩:=aP1 q h.2;⟨d,s,.need h.1 h1,h2⟩
 | .split b q,h=>let ⟨d,s,h1,h2⟩:=aP1 (q b) h;⟨d,s,.split h1,h2⟩
 | .row r q,h=>let ⟨x,hx,h'⟩:=h;let ⟨d,s,h1,h2⟩:=aP1 (q x) h';⟨d,s,.row hx h1,h2⟩
 | .rows r q,h=>let ⟨d,s,h1,h2⟩:=aP1 (q r) h;⟨d,s,.rows h1,h2⟩
 | .any p q,h=>h.elim
 | .str r q,h=>let ⟨x,hx,h'⟩:=h;let ⟨d,s,h1,h2⟩:=aP1 (q x) h';⟨d,s,.str hx h1,h2⟩
 | .call f args,h=>by
  simp only[conv,cond_true] at h
  cases ks with
  | true=>
   simp only[cond_true] at h
   cases hro:(E.pol f).ro with
   | true=>
    rw[hro] at h
    simp only[cond_true,ee4] at h
    split at h
    ·rename_i p hp
     obtain⟨hneed,d0,s0,x,hs,hb,ht,hk⟩:=br6 h
     exact⟨x.1,x.2,.callR rfl hp hneed hs hb ht,hk⟩
    ·exact h.elim
   | false=>
   rw[hro] at h
   simp only[cond_false,dZ2] at h
   split at h
   ·rename_i p hp
    obtain⟨hneed,h⟩:=br6 h
    obtain⟨d0,s0,hs,hk⟩:=h
    simp only at hk
    cases hb:p.back d0 s0 with
    | none=>rw[hb] at hk;exact hk.elim
    | some x=>rw[hb] at hk;exact⟨x.1,x.2,.callS rfl hro hp hneed hs hb,hk⟩
   ·exact h.elim
  | false=>
  simp only[cond_false,eb0] at h
  split at h
  ·rename_i args' hm
   obtain⟨d,hs,hk⟩:=h
   exact⟨d,σ,.call hm hs,hk⟩
  ·split at h
   ·rename_i args' hm0
    obtain⟨hneed,h⟩:=br6 h
    have hm:=dO1 hneed hm0
    obtain⟨d,hs,hk⟩:=h
    cases hp:aQ1 4 d with
    | true=>simp only[hp,cond_true] at hk;exact⟨d,σ,.callB hm hs hp,hk⟩
    | false=>simp only[hp,cond_false] at hk;exact hk.elim
   ·exact h.elim
 | .bad,h=>h.elim
theorem cs3 (hgl:GlOk E w Im) (hi:Inv w Im φ σ) {f:FuncId}{args args' :List D}{d:D}{vs:Array Value} (hargs:K4 w Im φ args vs.toList)
  (h:(U5 (tr bD3 q9) args=some args')∨(U5 (frz σ 0) args=some args' ∧aQ1 4 d=true)) (hs:bU6 E f args' d):
  Calls E.P f vs w fun e w' =>∃v Im',e=.returned v∧Nx w Im φ σ w' Im' φ σ∧i9 w' Im' φ d v:=by
 rcases h with hm | ⟨hm,hp⟩
 ·refine(hs w Im [] vs hgl (Inv.nil hi.im) (bd0 hm hargs (fun d d' v a b=>bv4 q9 d d' v a b))).mono ?_
  rintro e w' ⟨v,d',s,φ2,I2,rfl,ht,h2,hr,rfl,rfl⟩
  have ht' :Tr 0 w Im [] [] w' I2 φ2 []:=ht
  have hN:∀c,I2 c→Im c∨w.heap.size≤c:=fun c hc=>by
   rcases ht'.imN c hc with h | h | h
   ·exact .inl h
   ·exact absurd h (aR3 c)
   ·exact .inr h
  obtain⟨n1,n2⟩:=hi.past ht' h2 ht'.im hN
  have:φ2= []:=List.eq_nil_of_length_eq_zero (by rw[h2.len];rfl)
  subst this
  exact⟨v,I2,rfl,⟨n7.refl _,Nat.le_refl _,n2,n1⟩,hr.mono (fun _ h=>h) (fun _ _=>rfl) (n7.nil _)⟩
 ·have hIm:∀c,Im c→(Im c∨Own φ σ c):=fun c h=> .inl h
  have hfr:∀d d' v,i9 w Im φ d v→frz σ 0 d=some d' →i9 w (fun c=>Im c∨Own φ σ c) [] d' v:=fun d d' v a b=>by
   have hown:∀(b:Nat) (B:G7) (l:Loc),0≤b→sget σ b=some B→φ[b]? =some l→0<l.size→(fun c=>Im c∨Own φ σ c) l.blk:=fun b B l _ a2 a3 hp=> .inr ⟨b,B,l,a3,a2,rfl,hp⟩
   exact bI7 hIm (fun b i o d' v a b' =>az0 hi hIm hown 6 false _ (fun _ b l hb=>by omega) _ d' v (fun _ _ _ _=>trivial) a b') (fun b i len lo ex d' v a b' =>az0 hi hIm hown 6 false _ (fun _ b l hb=>by omega) _ d' v (fun _ _ _ _=>trivial) a b') q9 d d' v a b
  refine(hs w (fun c=>Im c∨Own φ σ c) [] vs (hgl.mono (fun _ h=> .inl h) (fun _ _=>rfl)) (Inv.nil (fun c hc=>hc.elim (hi.im c) hi.own_lt)) (bd0 hm hargs hfr)).mono ?_
  rintro e w' ⟨v,d',s,φ2,I2,rfl,ht,h2,hr,rfl,rfl⟩
  have ht' :Tr 0 w (fun c=>Im c∨Own φ σ c) [] [] w' I2 φ2 []:=ht
  have hsame:∀c,c<w.heap.size→w'.heap[c]? =w.heap[c]? :=fun c hc=>ht'.ext.same c hc (aR3 c)
  exact⟨v,Im,rfl,⟨n7.refl _,Nat.le_refl _,⟨⟨ht'.ext.size,fun c hc _=>hsame c hc,ht'.ext.io⟩,fun c hc=> .inl hc,fun _ _=>rfl,fun _ h=>h,fun _ h=> .inl h⟩,
   ⟨hi.len,fun b B l a1 a2=>(hi.blk b B l a1 a2).of_heap (fun hp=>hsame _ ((hi.blk b B l a1 a2).lt hp)) ht'.ext.size (fun _ h=>h) (fun c hc=>hsame c (hi.im c hc)) (n7.refl _),hi.inj,hi.sep,fun c hc=>Nat.lt_of_lt_of_le (hi.im c hc) ht'.ext.size⟩⟩,co7 4 d' v hp hr⟩
theorem ey6 (hi:Inv w Im φ σ) {o:Oper}{a:Act}{next:Act→World→Prop}{R:Exit→Act→World→Prop}{ρ:Operand→D} (hρ:∀x,i9 w Im φ (ρ x) (a.eval x)) {d:D} (hd:cI3 E.P ρ o=some d)
  (hk:∀v w' Im',Nx w Im φ σ w' Im' φ σ→i9 w' Im' φ d v→next (a.put o.dst v) w'):o.wp E.P a w next R:=by
 have hs:=bY5 (P:=E.P) (σ:= []) (φ:= []) (Inv.nil hi.im) (ρ:=fun x=>cN3 (dF0 E.P o) (ρ x)) (ρc:=a.eval) (fun x=>by
  unfold cN3
  split
  ·rename_i cs h
   obtain⟨vs,e,g1,g2⟩:=(bv4 q9 _ _ _ (hρ x) h).agg_inv
   rw[e]
   have g3:=dC2 (dF0 E.P o) ⟨g1,g2⟩
   exact .agg _ _ g3.1 g3.2
  ·rename_i d' _ h;exact bv4 q9 _ _ _ (hρ x) h
  ·exact .undef _) o
 unfold cI3 at hd
 split at hd
 ·rename_i l lo ex B hA
  rw[hA] at hs
  obtain⟨v,w',φ',h1,h2⟩:=hs
  cases hdp:B.deep with
  | true=>rw[hdp] at hd;cases hd
  | false=>
   rw[hdp] at hd
   simp only[cond_false] at hd
   cases hle:Nat.ble (0+l) B.rows.length with
   | false=>rw[hle] at hd;cases hd
   | true=>
    rw[hle] at hd
    simp only[cond_true,Option.some.injEq] at hd
    subst hd
    have hgv:=h2.inv.give (fun _=>true)
    have ht:Tr 0 w Im [] [] w' (fun c=>Im c∨Own φ' (D5 (fun _=>true) 0 [some B]) c) φ' (D5 (fun i=> !((fun _=>true) i)) 0 [some B]):=Tr.trans h2.tr (hgv.2.le (Nat.zero_le _))
    have hown:∀c,Own φ' [some B] c→w.heap.size≤c:=fun c hc=>(h2.tr.own c hc).resolve_left (aR3 c)
    obtain⟨n1,n2⟩:=hi.past (J:=Im) ⟨ht.ext,ht.own,ht.pre,ht.im,ht.imN⟩ hgv.1 (fun _ h=> .inl h) (fun c hc=>hc.imp id (hown c))
    have hr:i9 w' (fun c=>Im c∨Own φ' (D5 (fun _=>true) 0 [some B]) c) [] (.sl false B.sz ((B.rows.drop 0).take l)) v:=
     az0 h2.inv (m:=0) (fun _ h=> .inl h) (fun b B' l _ a2 a3 hp=> .inr ⟨b,B',l,a3,a2,rfl,hp⟩) 6 false [] (fun _ b l hb=>by omega) _ _ _ (fun _ _ _ _=>trivial) h2.rel (by
      have hg:sget [some B] 0=some B:=rfl
      simp only[ao7,Nat.blt,Nat.ble,cond_false,hg,hdp,hle,cond_true])
    have:=hk v w' _ ⟨n7.refl _,Nat.le_refl _,n2,n1⟩ (hr.mono (fun _ h=>h) (fun _ _=>rfl) (n7.nil _))
    unfold Oper.wp
    rcases h1 with h1 | ⟨h1,rfl⟩
    ·rw[h1];exact this
    ·rw[h1];exact this
 ·cases hd
theorem dB2 {ks:Bool} (hgl:GlOk E w Im) (hi:Inv w Im φ σ) {o:Oper}{a:Act}{next:Act→World→Prop}{R:Exit→Act→World→Prop}{r:A3}{d:D}{s:i0} (hl:ab4 E ks σ r d s)
  (hs:aP0 E.P w Im φ σ (execOp a.eval o) r) (hk:∀v w' Im' φ',Nx w Im φ σ w' Im' φ' s→i9 w' Im' φ' d v→next (a.put o.dst v) w'):o.wp E.P a w next R:=by
 induction hl with
 | ok d s=>
  obtain⟨v,w',φ',h1,h2⟩:=hs
  have:=hk v w' Im φ' (h2.nx h2.le.length) h2.rel
  unfold Oper.wp
  rcases h1 with h1 | ⟨h1,rfl⟩
  ·rw[h1];exact this
  ·rw[h1];exact this
 | need hb _ ih=>exact ih (hs hb) hk
 | split _ ih=>exact ih hs hk
 | row hx _ ih=>exact ih (hs _ hx) hk
 | rows _ ih=>exact ih hs hk
 | str hx _ ih=>exact ih (hs _ hx) hk
 | call hm hsd=>
  obtain⟨vs,h1,h2,h3⟩:=hs
  unfold Oper.wp
  rw[h1]
  refine(cs3 hgl hi (vs:=vs) ⟨by simpa using h2,fun i d v a b=>h3 i d v a (by simpa using b)⟩ (.inl hm) hsd).mono ?_
  rintro e w' ⟨v,Im',rfl,n,hr⟩
  exact hk v w' Im' φ n hr
 | callB hm hsd hp=>
  obtain⟨vs,h1,h2,h3⟩:=hs
  unfold Oper.wp
  rw[h1]
  refine(cs3 hgl hi (vs:=vs) ⟨by simpa using h2,fun i d v a b=>h3 i d v a (by simpa using b)⟩ (.inr ⟨hm,hp⟩) hsd).mono ?_
  rintro e w' ⟨v,Im',rfl,n,hr⟩
  exact hk v w' Im' φ n hr
 | callR _ hp hneed hsd hb _=>
  obtain⟨vs,h1,h2,h3⟩:=hs
  unfold Oper.wp
  rw[h1]
  refine(cK0 hgl hi (vs:=vs) ⟨by simpa using h2,fun i d v a b=>h3 i d v a (by simpa using b)⟩ hp hneed hsd).mono ?_
  rintro e w' ⟨v,d,s,rfl,⟨rfl,rfl⟩,hx⟩
  obtain⟨φ',Im',n,hr⟩:=hx _ hb
  exact hk v w' Im' φ' n hr
 | callS _ _ hp hneed hsd hb=>
  obtain⟨vs,h1,h2,h3⟩:=hs
  unfold Oper.wp
  rw[h1]
  refine(cK0 hgl hi (vs:=vs) ⟨by simpa using h2,fun i d v a b=>h3 i d v a (by simpa using b)⟩ hp hneed hsd).mono ?_
  rintro e w' ⟨v,d,s,rfl,⟨rfl,rfl⟩,hx⟩
  obtain⟨φ',Im',n,hr⟩:=hx _ hb
  exact hk v w' Im' φ' n hr
/-! ### other blocks, the same answer -/
def SLe (σ σ' :i0):Prop:=∀(b:Nat) (B:G7),sget σ b=some B→sget σ' b=some B
theorem SLe.refl (σ:i0):SLe σ σ:=fun _ _ h=>h
theorem SLe.trans {a b c:i0} (h:SLe a b) (h' :SLe b c):SLe a c:=fun _ _ x=>h' _ _ (h _ _ x)
theorem SLe.append (σ:i0) (B:Option G7):SLe σ (σ++ [B]):=fun b B' h=>by rw[F7 (Q9 h)];exact h
theorem aQ9 {f g:D→Option D} (h:∀d d',f d=some d' →g d=some d'):∀{l l' :List D},U5 f l=some l' →U5 g l=some l'
 | [],l',e=>e
 | d::r,l',e=>by
  simp only[U5] at e ⊢
  split at e
  ·rename_i x y h1 h2
   rw[h _ _ h1,aQ9 h h2];exact e
  ·cases e
theorem cu9 {f g:D→Option D} (h:∀d d',f d=some d' →g d=some d'):∀{l l' :List (List D)},aQ4 f l=some l' →aQ4 g l=some l'
 | [],l',e=>e
 | d::r,l',e=>by
  simp only[aQ4] at e ⊢
  split at e
  ·rename_i x y h1 h2
   rw[aQ9 h h1,cu9 h h2];exact e
  ·cases e
theorem da7 {f g:D→Option D} (h:∀d d',f d=some d' →g d=some d'):∀(n:Nat) (d d' :D),tr f n d=some d' →tr g n d=some d'
 | 0,_,_,e=>by simp[tr] at e
 | n+1,d,d',e=>by
  have ih:=da7 h n
  cases d<;>simp only[tr] at e ⊢<;>try exact e
  case ptr=>exact h _ _ e
  case msl=>exact h _ _ e
  case fn=>
   split at e
   ·rename_i x y h1 h2
    rw[aQ9 ih h1,aQ9 ih h2];exact e
   ·cases e
  case agg=>
   simp only[Option.map_eq_some_iff] at e ⊢
   obtain⟨x,h1,rfl⟩:=e
   exact⟨x,aQ9 ih h1,rfl⟩
  case tup=>
   simp only[Option.map_eq_some_iff] at e ⊢
   obtain⟨x,h1,rfl⟩:=e
   exact⟨x,aQ9 ih h1,rfl⟩
  case iface=>
   simp only[Option.map_eq_some_iff] at e ⊢
   obtain⟨x,h1,rfl⟩:=e
   exact⟨x,ih _ _ h1,rfl⟩
theorem dl5 (hle:SLe σ σ') (m:Nat):∀(n:Nat) (st:Bool) (d d' :D),ao7 σ m st n d=some d' →ao7 σ' m st n d=some d'
 | 0,_,_,_,e=>by simp[ao7] at e
 | n+1,st,d,d',e=>by
  have ih:=da7 (dl5 hle m n true) q9
  cases d<;>simp only[ao7,Bool.cond_eq_ite] at e ⊢<;>try (cases e;done)
  ·split at e
   ·rename_i h1;rw[if_pos h1];exact e
   ·rename_i h1
    rw[if_neg h1]
    split at e
    ·rename_i B hB
     rw[hle _ _ hB]
     simp only
     split at e
     ·rename_i h2
      rw[if_pos h2]
      split at e
      ·rename_i rows hrows
       rw[cu9 ih hrows];exact e
      ·cases e
     ·rename_i h2;rw[if_neg h2];exact e
    ·cases e
  ·split at e
   ·rename_i h1;rw[if_pos h1];exact e
   ·rename_i h1
    rw[if_neg h1]
    split at e
    ·rename_i B hB
     rw[hle _ _ hB]
     simp only
     split at e
     ·rename_i h3
      rw[if_pos h3]
      split at e
      ·rename_i h2
       rw[if_pos h2]
       split at e
       ·rename_i rows hrows
        rw[cu9 ih hrows];exact e
       ·cases e
      ·rename_i h2;rw[if_neg h2];exact e
     ·cases e
    ·cases e
theorem em0 (hle:SLe σ σ') (m:Nat) (d d' :D) (h:frz σ m d=some d'):frz σ' m d=some d' :=da7 (dl5 hle m 6 false) q9 d d' h
/-- The same answer over other blocks. -/
inductive Sim (σ σ' : i0) : A3 → A3 → Prop
  | ok (d : D) : Sim σ σ' (.ok d σ) (.ok d σ')
  | need (b : Bool) {k k' : A3} : Sim σ σ' k k' → Sim σ σ' (.need b k) (.need b k')
  | split (b : Bool) {k k' : Bool → A3} : (∀ x, Sim σ σ' (k x) (k' x)) → Sim σ σ' (.split b k) (.split b k')
  | row (r : Option (List D)) {k k' : List D → A3} : (∀ x, Sim σ σ' (k x) (k' x)) → Sim σ σ' (.row r k) (.row r k')
  | rows (r : List (List D)) {k k' : List (List D) → A3} : (∀ x, Sim σ σ' (k x) (k' x)) → Sim σ σ' (.rows r k) (.rows r k')
  | str (r : Option (List UInt8)) {k k' : List UInt8 → A3} : (∀ x, Sim σ σ' (k x) (k' x)) → Sim σ σ' (.str r k) (.str r k')
  | call (f : FuncId) (args : List D) : SLe σ σ' → Sim σ σ' (.call f args) (.call f args)
  | any (p : Bool) {k k' : Bool → A3} : Sim σ σ' (.any p k) (.any p k')
  | yld (l : Nat) (args : List D) (r : A3) : Sim σ σ' (.yld l args) r
  | bad (r : A3) : Sim σ σ' .bad r
theorem Sim.leaf {r r' :A3} (h:Sim σ σ' r r') {d:D}{s:i0} (hl:ab4 E false σ r d s):ab4 E false σ' r' d σ' :=by
 induction h with
 | ok d=>cases hl;exact .ok _ _
 | yld=>cases hl
 | need b _ ih=>cases hl with | need hb hl=>exact .need hb (ih hl)
 | split b _ ih=>cases hl with | split hl=>exact .split (ih _ hl)
 | row r _ ih=>cases hl with | row hx hl=>exact .row hx (ih _ hl)
 | rows r _ ih=>cases hl with | rows hl=>exact .rows (ih _ hl)
 | str r _ ih=>cases hl with | str hx hl=>exact .str hx (ih _ hl)
 | call f args hle=>
  cases hl with
  | call hm hs=>exact .call hm hs
  | callB hm hs hp=>exact .callB (aQ9 (em0 hle 0) hm) hs hp
  | callS h=>cases h
  | callR h=>cases h
 | any p=>cases hl
 | bad r=>cases hl
theorem Sim.opt (o:Option D):Sim σ σ' (A3.opt o σ) (A3.opt o σ'):=by
 cases o
 ·exact .bad _
 ·exact .ok _
end
section
variable {P : Program} {σ σ' : i0}
theorem dT2 (op:BinOp) (k k' :IntKind) (x y:Int):Sim σ σ' (bY6 op k k' x y σ) (bY6 op k k' x y σ'):=by
 unfold bY6
 split
 ·exact .need _ (.ok _)
 ·exact .need _ (.ok _)
 ·split
  ·exact .need _ (.ok _)
  ·exact .bad _
 ·split
  ·exact .need _ (.ok _)
  ·exact .bad _
 ·split
  ·exact .opt _
  ·exact .bad _
theorem eu8 (op:BinOp) (t:TypeId) (x y:D):Sim σ σ' (dd6 P op t x y σ) (dd6 P op t x y σ'):=by
 unfold dd6
 split
 ·exact dT2 _ _ _ _ _
 ·split
  ·exact .ok _
  ·exact .ok _
  ·exact .ok _
  ·exact .need _ (.ok _)
  ·exact .bad _
 ·have h:∀f:Bool→D,Sim σ σ' (eqQ P t x y fun b=> .ok (f b) σ) (eqQ P t x y fun b=> .ok (f b) σ'):=fun f=>by
   unfold eqQ
   split
   ·exact .any _
   ·split
    ·exact .ok _
    ·exact .bad _
  split
  ·exact h _
  ·exact h _
  ·exact .bad _
theorem bt4 (rows:List (List D)) (sz i o n:Nat) (ag:Bool):Sim σ σ' (aV0 rows sz i o n ag σ) (aV0 rows sz i o n ag σ'):=by
 unfold aV0
 split
 ·refine .row _ fun x=> ?_
  by_cases h1:ag=true
  ·rw[if_pos h1,if_pos h1]
   by_cases h2:x.length=sz
   ·rw[if_pos h2,if_pos h2];exact .ok _
   ·rw[if_neg h2];exact .bad _
  ·rw[if_neg h1,if_neg h1]
   by_cases h2:n=1
   ·rw[if_pos h2,if_pos h2];exact .opt _
   ·rw[if_neg h2];exact .bad _
 ·split
  ·exact .need _ (.rows _ fun _=> .ok _)
  ·exact .bad _
theorem en2 (hle:SLe σ σ') (t:TypeId) (p:D):Sim σ σ' (aW0 P t p σ) (aW0 P t p σ'):=by
 unfold aW0
 split
 ·exact .bad _
 ·split
  ·split
   ·rename_i B hB;rw[hle _ _ hB];exact bt4 _ _ _ _ _ _
   ·exact .bad _
  ·exact bt4 _ _ _ _ _ _
  ·exact .bad _
theorem dt6 (hle:SLe σ σ') (t:TypeId) (x:D) (i:Int):Sim σ σ' (ao6 P t x i σ) (ao6 P t x i σ'):=by
 unfold ao6
 split
 ·split
  ·exact .bad _
  ·split
   ·split
    ·exact .need _ (.ok _)
    ·exact .bad _
   ·exact .bad _
   ·split
    ·rename_i B hB
     rw[hle _ _ hB]
     simp only
     split
     ·exact .need _ (.ok _)
     ·exact .bad _
    ·exact .bad _
   ·exact .bad _
 ·split
  ·split
   ·rename_i B hB
    rw[hle _ _ hB]
    simp only
    split
    ·exact .need _ (.ok _)
    ·exact .bad _
   ·exact .bad _
  ·split
   ·exact .need _ (.ok _)
   ·exact .bad _
  ·exact .bad _
 ·exact .bad _
theorem dl4 (t:TypeId) (cs:List D) (off:Nat):Sim σ σ' (cx4 P t cs off σ) (cx4 P t cs off σ'):=by
 unfold cx4
 split
 ·split
  ·exact .ok _
  ·exact .row _ fun _=> .opt _
 ·exact .bad _
theorem dX6 (t:TypeId) (x:D) (i:Int):Sim σ σ' (aR1 P t x i σ) (aR1 P t x i σ'):=by
 unfold aR1
 split
 ·split
  ·exact .need _ (dl4 _ _ _)
  ·exact .bad _
 ·split
  ·exact .need _ (dl4 _ _ _)
  ·exact .bad _
 ·exact .need _ (.row _ fun _=> .opt _)
 ·exact .bad _
theorem bj7 {n c:Nat}{lo hi mx:Option Int}{k k' :(l h:Nat)→(m:Option Nat)→A3} (h:∀l h m,Sim σ σ' (k l h m) (k' l h m)):Sim σ σ' (aY1 n c lo hi mx k) (aY1 n c lo hi mx k'):=by
 unfold aY1
 split
 ·exact h _ _ _
 ·exact .need _ (h _ _ _)
 ·exact .need _ (h _ _ _)
 ·exact .need _ (.need _ (h _ _ _))
 ·exact .need _ (.need _ (h _ _ _))
 ·exact .need _ (.need _ (.need _ (h _ _ _)))
 ·exact .bad _
theorem ed6 (hle:SLe σ σ') (t:TypeId) (x:D) (lo hi mx:Option Int):Sim σ σ' (bT8 P t x lo hi mx σ) (bT8 P t x lo hi mx σ'):=by
 unfold bT8
 split
 ·split
  ·exact bj7 fun _ _ _=> .ok _
  ·exact .bad _
 ·split
  ·exact bj7 fun _ _ _=> .ok _
  ·exact .bad _
 ·split
  ·split
   ·exact bj7 fun _ _ _=> .rows _ fun _=> .ok _
   ·exact .bad _
  ·exact .bad _
 ·split
  ·rename_i n B hn hB
   rw[hn,hle _ _ hB]
   simp only
   split
   ·exact bj7 fun _ _ _=> .ok _
   ·exact .bad _
  ·exact .bad _
 ·split
  ·rename_i n B hn hB
   rw[hn,hle _ _ hB]
   simp only
   split
   ·exact bj7 fun _ _ _=> .ok _
   ·exact .bad _
  ·exact .bad _
 ·exact .bad _
theorem dS6 (hle:SLe σ σ') {x:D}{y:Nat×Bool×Option Nat×List (List D)} (h:bD5 σ x=some y):bD5 σ' x=some y:=by
 cases x<;>simp only[bD5] at h ⊢<;>try exact h
 split at h
 ·rename_i B hB;rw[hle _ _ hB];exact h
 ·cases h
theorem ef8 {n:Option Nat}{k:Nat}{r r' :A3} (h:Sim σ σ' r r'):Sim σ σ' (bQ4 n k r) (bQ4 n k r'):=by
 cases n
 ·exact h
 ·exact .need _ h
theorem em9 (hle:SLe σ σ') {s d:TypeId} (hd:∀e,P.underlying d≠some (.slice e)) (x:D):Sim σ σ' (bQ2 P s d x σ) (bQ2 P s d x σ'):=by
 unfold bQ2
 split
 ·exact .ok _
 ·exact .ok _
 ·rename_i e l h3 h4;exact absurd (by assumption) (hd _)
 ·exact absurd (by assumption) (hd _)
 ·split
  ·rename_i sz dq n rows h1 h2 h3
   rw[h1,h2,dS6 hle h3]
   simp only
   split
   ·exact ef8 (.str _ fun _=> .ok _)
   ·exact .bad _
  ·exact .bad _
 ·exact .bad _
theorem dM4 (ρ:Operand→D) (o:Oper) (h1:K9 P o.op≤1) (h2:K9 P o.op=0∨SLe σ σ'):Sim σ σ' (aop P ρ o σ) (aop P ρ o σ'):=by
 unfold aop
 cases hop:o.op<;>simp only[hop] at h1 h2 ⊢<;>try (exfalso;simp[K9,T5] at h1;done)
 case move=>exact .ok _
 case assign=>exact .ok _
 case pick c a b=>cases ρ c<;>first | exact .bad _ | exact .split _ fun _=> .ok _
 case build=>exact .opt _
 case load=>exact en2 (h2.resolve_left (by simp[K9,T5])) _ _
 case nilCheck x=>cases ρ x<;>first | exact .bad _ | exact .ok _
 case binOp=>exact eu8 _ _ _ _
 case unOp=>exact .opt _
 case convert s d x=>
  have hd:∀e,P.underlying d≠some (.slice e):=fun e he=>by simp[K9,T5,he] at h1
  by_cases hk:∃k,P.underlying d=some (.int k)
  ·obtain⟨k,hk⟩:=hk
   unfold bQ2
   rw[hk]
   split<;>first | exact .ok _ | exact .bad _ | (exfalso;simp_all;done)
  ·have hle:SLe σ σ' :=h2.resolve_left (by
    intro h0
    simp only[K9,T5] at h0
    split at h0
    ·simp at h0
    ·rename_i he;exact hk ⟨_,he⟩
    ·simp at h0)
   exact em9 hle hd _
 case makeFunc fn first caps=>cases fn<;>first | exact .bad _ | exact .ok _
 case slice t x lo hi mx=>
  have hle:=h2.resolve_left (by simp[K9,T5])
  split
  ·exact ed6 hle _ _ _ _ _
  ·exact .bad _
 case fieldAddr=>exact .opt _
 case field=>exact .opt _
 case indexAddr t x i=>
  have hle:=h2.resolve_left (by simp[K9,T5])
  cases ρ i<;>first | exact .bad _ | exact dt6 hle _ _ _
 case index t x i=>cases ρ i<;>first | exact .bad _ | exact dX6 _ _ _
 case extract x i=>cases ρ x<;>first | exact .bad _ | exact .opt _
 case makeInterface t x=>
  split
  ·exact .bad _
  ·cases ρ x<;>first | exact .bad _ | exact .ok _
  ·exact .bad _
 case call c=>
  unfold callD
  cases hc:c.callee with
  | value f=>
   have hle:=h2.resolve_left (by simp[K9,T5,hc])
   simp only
   cases ρ f<;>first | exact .bad _ | exact .yld _ _ _ | skip
   simp only
   split
   ·exact .call _ _ hle
   ·exact .bad _
  | builtin b=>
   simp only
   unfold aO6
   cases b<;>try (exfalso;simp[K9,T5,hc] at h1;done)
   all_goals first
    | exact .opt _
    | (split<;>first
      | exact .bad _
      | (unfold dw0;split<;>first | exact .ok _ | exact .bad _)
      | (unfold dv0;split<;>first | exact .ok _ | exact .bad _)
      | (simp_all;done))
  | invoke r m=>exfalso;simp[K9,T5,hc] at h1
theorem dm3 {ρ ρ' :Operand→D} (o:Oper) (h:∀x∈o.op.operands,ρ x=ρ' x):aop P ρ o σ=aop P ρ' o σ:=by
 unfold aop
 cases hop:o.op<;>rw[hop] at h<;>simp only[Op.operands] at h<;>(try simp only)
 case build t ps=>rw[show(ps.toList.map fun p=>(p.1,ρ p.2))=(ps.toList.map fun p=>(p.1,ρ' p.2)) from List.map_congr_left fun p hp=>by rw[h p.2 (by simp;exact⟨p.1,by simpa using hp⟩)]]
 case buildSlice t n ps=>rw[show(ps.toList.map fun p=>(p.1,ρ p.2))=(ps.toList.map fun p=>(p.1,ρ' p.2)) from List.map_congr_left fun p hp=>by rw[h p.2 (by simp;exact⟨p.1,by simpa using hp⟩)]]
 case makeFunc fn first caps=>
  cases fn<;>try rfl
  simp only
  rw[show first.toList.map ρ=first.toList.map ρ' from List.map_congr_left fun x hx=>h x (by simp at hx;simp[hx]),show caps.toList.map ρ=caps.toList.map ρ' from List.map_congr_left fun x hx=>h x (by simp at hx;simp[hx])]
 case call c=>
  unfold callD
  have hargs:c.args.toList.map ρ=c.args.toList.map ρ' :=List.map_congr_left fun x hx=>h x (by simp at hx;simp[Call.operands,hx])
  rw[hargs]
  cases hc:c.callee with
  | value f=>simp only;rw[h f (by simp[Call.operands,hc])]
  | builtin b=>rfl
  | invoke r m=>rfl
 case slice t x lo hi mx=>cases lo<;>cases hi<;>cases mx<;>simp_all
 all_goals (first | rfl | (simp_all;done))
theorem es3 {E:L6}{ρ:Operand→D}{o:Oper} (h1:K9 P o.op=2) {d:D}{s:i0} (hl:ab4 E false σ (aop P ρ o σ) d s):SLe σ s:=by
 have halloc:∀t x,ab4 E false σ (bx5 P t x σ) d s→SLe σ s:=fun t x hl=>by
  unfold bx5 at hl
  split at hl
  ·cases hl;exact SLe.append _ _
  ·cases hl
 unfold aop at hl
 cases hop:o.op<;>simp only[hop] at h1 hl<;>try (exfalso;simp[K9,T5] at h1;done)
 case alloc t=>
  split at hl
  ·exact halloc _ _ hl
  ·cases hl
 case box t x=>exact halloc _ _ hl
 case buildSlice t n ps=>
  unfold bs6 at hl
  split at hl
  ·split at hl
   ·split at hl
    ·split at hl
     ·cases hl;exact SLe.append _ _
     ·cases hl
    ·cases hl
   ·cases hl
  ·cases hl
 case makeSlice t l c=>
  split at hl
  ·unfold bD2 at hl
   split at hl
   ·split at hl
    ·split at hl
     ·cases hl with
      | need _ hl=>
       cases hl with
       | rows hl=>
        cases hsm:dD4 l c<;>rw[hsm] at hl<;>(cases hl;exact SLe.append _ _)
     ·cases hl
    ·cases hl
   ·cases hl
  ·cases hl
 case convert s' d' x=>
  simp only[K9,T5] at h1
  split at h1
  ·rename_i e he
   unfold bQ2 at hl
   split at hl
   ·exfalso;simp_all
   ·exfalso;simp_all
   ·split at hl
    ·cases hl with | rows hl=>cases hl;exact SLe.append _ _
    ·cases hl
   ·split at hl
    ·split at hl
     ·cases hl with | need _ hl=>cases hl;exact SLe.refl _
     ·cases hl
    ·cases hl
   ·exfalso;simp_all
   ·cases hl
  ·cases h1
  ·cases h1
 case call c=>
  cases hc:c.callee with
  | builtin b=>cases b<;>(exfalso;simp[K9,T5,hc] at h1)
  | value f=>exfalso;simp[K9,T5,hc] at h1
  | invoke r m=>exfalso;simp[K9,T5,hc] at h1
theorem dV4 {t:TypeId}{p:D} (hle:∀b B,bc7 p=some b→sget σ b=some B→sget σ' b=some B):Sim σ σ' (aW0 P t p σ) (aW0 P t p σ'):=by
 unfold aW0
 split
 ·exact .bad _
 ·split
  ·split
   ·rename_i B hB;rw[hle _ _ rfl hB];exact bt4 _ _ _ _ _ _
   ·exact .bad _
  ·exact bt4 _ _ _ _ _ _
  ·exact .bad _
theorem dg8 {t:TypeId}{x:D}{i:Int} (hle:∀b B,bc7 x=some b→sget σ b=some B→sget σ' b=some B):Sim σ σ' (ao6 P t x i σ) (ao6 P t x i σ'):=by
 unfold ao6
 split
 ·split
  ·exact .bad _
  ·split
   ·split
    ·exact .need _ (.ok _)
    ·exact .bad _
   ·exact .bad _
   ·split
    ·rename_i B hB
     rw[hle _ _ rfl hB]
     simp only
     split
     ·exact .need _ (.ok _)
     ·exact .bad _
    ·exact .bad _
   ·exact .bad _
 ·split
  ·split
   ·rename_i B hB
    rw[hle _ _ rfl hB]
    simp only
    split
    ·exact .need _ (.ok _)
    ·exact .bad _
   ·exact .bad _
  ·split
   ·exact .need _ (.ok _)
   ·exact .bad _
  ·exact .bad _
 ·exact .bad _
theorem dB4 (ρ:Operand→D) (o:Oper) (h1:K9 P o.op≤1) {a:Operand} (hs:aP9 o.op=some a) (hle:∀b B,bc7 (ρ a)=some b→sget σ b=some B→sget σ' b=some B):Sim σ σ' (aop P ρ o σ) (aop P ρ o σ'):=by
 unfold aop
 cases hop:o.op<;>simp only[hop,aP9] at h1 hs ⊢<;>try (cases hs;done)
 case load=>obtain rfl:=Option.some.inj hs;exact dV4 hle
 case store=>exfalso;simp[K9,T5] at h1
 case indexAddr t x i=>
  obtain rfl:=Option.some.inj hs
  cases ρ i<;>first | exact .bad _ | exact dg8 hle
 case call c=>
  exfalso
  split at hs
  ·rename_i hc _
   simp[K9,T5,hc] at h1
  ·cases hs
theorem aU1 {b b' :Nat}{B:G7}{x:Option G7} (hne:b≠b') (h:sget σ b' =some B):sget (σ.set b x) b' =some B:=by
 rw[←h]
 unfold sget
 rw[List.getElem?_set_ne hne]
theorem dQ7 {E:L6}{n:Option Nat}{k:Nat}{r:A3}{d:D}{s:i0} (h:ab4 E false σ (bQ4 n k r) d s):ab4 E false σ r d s:=by
 unfold bQ4 at h
 split at h
 ·exact h
 ·cases h with | need _ h=>exact h
theorem ev8 {E:L6}{ρ:Operand→D}{o:Oper} (h1:K9 P o.op=3) {a:Operand} (hs:aP9 o.op=some a) {d:D}{s:i0} (hl:ab4 E false σ (aop P ρ o σ) d s) {b:Nat}{B:G7} (hb:bc7 (ρ a)≠some b) (h:sget σ b=some B):sget s b=some B:=by
 unfold aop at hl
 cases hop:o.op<;>simp only[hop,aP9] at h1 hs hl<;>try (cases hs;done)
 case load=>exfalso;simp[K9,T5] at h1
 case indexAddr=>exfalso;simp[K9,T5] at h1
 case store t x v=>
  obtain rfl:=Option.some.inj hs
  unfold cT8 at hl
  split at hl
  ·rename_i n cs b' i o' _ _ hx
   have hne:b' ≠b:=fun e=>hb (by rw[hx,e];rfl)
   split at hl
   ·split at hl
    ·split at hl
     ·cases hl with | row _ hl=>cases hl with | rows hl=>cases hl;exact aU1 hne h
     ·split at hl
      ·cases hl with | need _ hl=>cases hl with | rows hl=>cases hl;exact aU1 hne h
      ·cases hl
    ·cases hl
   ·cases hl
  ·cases hl
 case call c=>
  split at hs
  ·rename_i s' x' hc ha
   obtain rfl:=Option.some.inj hs
   simp only[callD,hc,ha,List.map_cons,List.map_nil] at hl
   have main:∀t,ab4 E false σ (bH0 P t (ρ s') (ρ x') σ) d s→sget s b=some B:=fun t hl=>by
    unfold bH0 at hl
    split at hl
    ·split at hl
     ·split at hl
      ·have hl:=dQ7 hl
       split at hl
       ·cases hl with | need _ hl=>cases hl with | rows hl=>cases hl;rw[F7 (Q9 h)];exact h
       ·rename_i b' i len lo ex hx
        have hne:b' ≠b:=fun e=>hb (by rw[hx,e];rfl)
        split at hl
        ·split at hl
         ·cases hl with
          | need _ hl=>cases hl with
           | need _ hl=>cases hl with
            | rows hl=>
             cases hl
             have:=aU1 (x:=none) hne h
             rw[F7 (Q9 this)];exact this
         ·cases hl
        ·cases hl
       ·cases hl
      ·cases hl
     ·cases hl
    ·cases hl
   generalize c.argTypes.toList=ts at hl
   match ts,hl with
   | [],hl=>simp only[aO6] at hl;cases hl
   | [_],hl=>simp only[aO6] at hl;cases hl
   | [t,t'],hl=>
    simp only[aO6] at hl
    split at hl
    ·exact main t hl
    ·exact main t hl
    ·unfold cw1 at hl
     split at hl
     ·split at hl
      ·split at hl
       ·cases hl with | need _ hl=>cases hl with | rows hl=>cases hl;rw[F7 (Q9 h)];exact h
       ·cases hl
      ·cases hl
     ·cases hl
    ·cases hl
   | _::_::_::_,hl=>simp only[aO6] at hl;cases hl
  ·cases hs
end
def ap3 (dst:Nat→Option Nat) (dv:Nat→D) (fr:Fr) (S:Nat→Prop) (g:Fr):Prop:=
 ∀t,(∃j,S j∧dst j=some t∧(∀k,S k→dst k=some t→k≤j)∧v8 g t=dv j)∨((∀k,S k→dst k≠some t)∧v8 g t=v8 fr t)
def az4 (kd:Nat→Nat) (sv:Nat→i0) (σ0:i0) (S:Nat→Prop) (σ:i0):Prop:=
 (∃j,S j∧2≤kd j∧(∀k,S k→2≤kd k→k≤j)∧σ=sv j)∨((∀k,S k→¬2≤kd k)∧σ=σ0)
section
variable {dst : Nat → Option Nat} {dv dv' : Nat → D} {fr : Fr} {S S' : Nat → Prop} {g g' : Fr} {kd : Nat → Nat} {sv sv' : Nat → i0} {σ0 σ σ' : i0}
theorem ap3.same (h:ap3 dst dv fr S g) (h' :ap3 dst dv fr S' g') {t:Nat} (e:∀k,dst k=some t→(S k↔S' k)):v8 g t=v8 g' t:=by
 rcases h t with⟨j,h1,h2,h3,h4⟩ | ⟨h1,h2⟩<;>rcases h' t with⟨j',k1,k2,k3,k4⟩ | ⟨k1,k2⟩
 ·have a:=k3 j ((e j h2).1 h1) h2
  have b:=h3 j' ((e j' k2).2 k1) k2
  have:j=j' :=by omega
  rw[h4,k4,this]
 ·exact absurd h2 (k1 j ((e j h2).1 h1))
 ·exact absurd k2 (h1 j' ((e j' k2).2 k1))
 ·rw[h2,k2]
theorem ap3.ext (h:ap3 dst dv fr S g) (e:∀t,v8 g' t=v8 g t):ap3 dst dv fr S g' :=fun t=>by
 rcases h t with⟨j,h1,h2,h3,h4⟩ | ⟨h1,h2⟩
 ·exact .inl ⟨j,h1,h2,h3,by rw[e,h4]⟩
 ·exact .inr ⟨h1,by rw[e,h2]⟩
theorem ap3.congr (h:ap3 dst dv fr S g) (e:∀j,S j→dv' j=dv j):ap3 dst dv' fr S g:=fun t=>by
 rcases h t with⟨j,h1,h2,h3,h4⟩ | ⟨h1,h2⟩
 ·exact .inl ⟨j,h1,h2,h3,by rw[e j h1,h4]⟩
 ·exact .inr ⟨h1,h2⟩
theorem ap3.iff (h:ap3 dst dv fr S g) (e:∀j,S j↔S' j):ap3 dst dv fr S' g:=by
 rw[show S' =S from funext fun j=>propext (e j).symm];exact h
theorem dx1 (g:Fr) (o:Option Nat) (d:D) (t:Nat):v8 (put g o d) t=if o=some t then d else v8 g t:=by
 cases o with
 | none=>simp[put]
 | some s=>
  simp only[put,az9,v8,Bool.cond_eq_ite,Option.some.injEq]
  by_cases h:s=t
  ·subst h;rw[if_pos (Nat.beq_refl s),if_pos rfl]
  ·rw[if_neg (fun e=>h (Nat.eq_of_beq_eq_true e)),if_neg h]
theorem ap3.put (h:ap3 dst dv fr S g) {i:Nat}{d:D} (hd:dv i=d) (hlast:∀k t,S k→dst i=some t→dst k=some t→k≤i):ap3 dst dv fr (fun k=>S k∨k=i) (put g (dst i) d):=fun t=>by
 rw[dx1]
 by_cases hi:dst i=some t
 ·rw[if_pos hi]
  exact .inl ⟨i,.inr rfl,hi,fun k hk hkt=>hk.elim (fun hk=>hlast k t hk hi hkt) (fun e=>by omega),hd.symm⟩
 ·rw[if_neg hi]
  rcases h t with⟨j,h1,h2,h3,h4⟩ | ⟨h1,h2⟩
  ·exact .inl ⟨j,.inl h1,h2,fun k hk hkt=>hk.elim (fun hk=>h3 k hk hkt) (fun e=>by subst e;exact absurd hkt hi),h4⟩
  ·exact .inr ⟨fun k hk=>hk.elim (h1 k) (fun e=>by subst e;exact hi),h2⟩
theorem az4.same (h:az4 kd sv σ0 S σ) (h' :az4 kd sv σ0 S' σ') (e:∀k,2≤kd k→(S k↔S' k)):σ=σ' :=by
 rcases h with⟨j,h1,h2,h3,h4⟩ | ⟨h1,h2⟩<;>rcases h' with⟨j',k1,k2,k3,k4⟩ | ⟨k1,k2⟩
 ·have a:=k3 j ((e j h2).1 h1) h2
  have b:=h3 j' ((e j' k2).2 k1) k2
  have:j=j' :=by omega
  rw[h4,k4,this]
 ·exact absurd h2 (k1 j ((e j h2).1 h1))
 ·exact absurd k2 (h1 j' ((e j' k2).2 k1))
 ·rw[h2,k2]
theorem az4.congr (h:az4 kd sv σ0 S σ) (e:∀j,S j→sv' j=sv j):az4 kd sv' σ0 S σ:=by
 rcases h with⟨j,h1,h2,h3,h4⟩ | ⟨h1,h2⟩
 ·exact .inl ⟨j,h1,h2,h3,by rw[e j h1,h4]⟩
 ·exact .inr ⟨h1,h2⟩
theorem az4.iff (h:az4 kd sv σ0 S σ) (e:∀j,2≤kd j→(S j↔S' j)):az4 kd sv σ0 S' σ:=by
 rcases h with⟨j,h1,h2,h3,h4⟩ | ⟨h1,h2⟩
 ·exact .inl ⟨j,(e j h2).1 h1,h2,fun k hk hc=>h3 k ((e k hc).2 hk) hc,h4⟩
 ·exact .inr ⟨fun k hk hc=>h1 k ((e k hc).2 hk) hc,h2⟩
/-- The list of what turned the blocks. -/
inductive aw9 (kd : Nat → Nat) (sv : Nat → i0) : Nat → List (Nat × i0) → Prop
  | nil : aw9 kd sv 0 []
  | skip {i : Nat} {h : List (Nat × i0)} : aw9 kd sv i h → ¬ 2 ≤ kd i → aw9 kd sv (i + 1) h
  | cons {i : Nat} {h : List (Nat × i0)} : aw9 kd sv i h → 2 ≤ kd i → aw9 kd sv (i + 1) ((i, sv i) :: h)
theorem aw9.congr {i:Nat}{h:List (Nat×i0)} (hh:aw9 kd sv i h) (e:∀j,j<i→sv' j=sv j):aw9 kd sv' i h:=by
 induction hh with
 | nil=>exact .nil
 | skip _ hk ih=>exact .skip (ih fun j hj=>e j (by omega)) hk
 | @cons i h _ hk ih=>rw[←e i (by omega)];exact .cons (ih fun j hj=>e j (by omega)) hk
theorem au9 {j i:Nat} (h:j<i+1):j<i∨j=i:=by omega
theorem aw9.get {i:Nat}{h:List (Nat×i0)} (hh:aw9 kd sv i h) (mask:Nat):az4 kd sv σ0 (fun j=>j<i∧mask.testBit j=true) (bW4 mask σ0 h):=by
 induction hh with
 | nil=>exact .inr ⟨fun k hk=>absurd hk.1 (Nat.not_lt_zero _),rfl⟩
 | @skip i h _ hk ih=>
  refine ih.iff fun j hc=>⟨fun x=>⟨Nat.lt_succ_of_lt x.1,x.2⟩,fun x=>⟨?_,x.2⟩⟩
  rcases au9 x.1 with h | h
  ·exact h
  ·subst h;exact absurd hc hk
 | @cons i h _ hk ih=>
  simp only[bW4]
  cases hb:mask.testBit i with
  | true=>exact .inl ⟨i,⟨Nat.lt_succ_self i,hb⟩,hk,fun k h1 _=>Nat.le_of_lt_succ h1.1,rfl⟩
  | false=>
   refine ih.iff fun j hc=>⟨fun x=>⟨Nat.lt_succ_of_lt x.1,x.2⟩,fun x=>⟨?_,x.2⟩⟩
   rcases au9 x.1 with h | h
   ·exact h
   ·subst h;rw[hb] at x;cases x.2
theorem aw9.last {i:Nat}{h:List (Nat×i0)} (hh:aw9 kd sv i h):az4 kd sv σ0 (fun j=>j<i) (dZ4 σ0 h):=by
 induction hh with
 | nil=>exact .inr ⟨fun k hk=>absurd hk (Nat.not_lt_zero _),rfl⟩
 | @skip i h _ hk ih=>exact ih.iff fun j hc=>⟨fun x=>Nat.lt_succ_of_lt x,fun x=>(au9 x).elim id fun e=>by subst e;exact absurd hc hk⟩
 | @cons i h _ hk ih=>exact .inl ⟨i,Nat.lt_succ_self i,hk,fun k h1 _=>Nat.le_of_lt_succ h1,rfl⟩
end
section
variable {E : L6} {C : Cx} {Q : D → i0 → Prop} {w w' : World} {Im Im' : Nat → Prop} {φ φ' : y0} {σ σ' : i0}
def cr3 (all:List Oper) (j:Nat):Option Nat:=match all[j]? with | some g=>g.dst | none=>none
/-- What an operation came to. -/
inductive OpF (E : L6) (all : List Oper) (o : Oper) (g : Fr) (τ : i0) : D → i0 → Prop
  | lit {d : D} : o.guard = none → bb7 all o = true → cI3 E.P (I8 E.gl g) o = some d → OpF E all o g τ d τ
  | run {d : D} {s : i0} : bb7 all o = false → cQ1 E g τ o = true → (o.guard = none ∨ ∃ j want sl b, o.guard = some (j, want) ∧ cr3 all j = some sl ∧ v8 g sl = .bool b ∧ (b == want) = true) → ab4 E (kOp E.kp o.op) τ (aop E.P (I8 E.gl g) o τ) d s → OpF E all o g τ d s
  | off {j sl : Nat} {want b : Bool} : o.guard = some (j, want) → cr3 all j = some sl → v8 g sl = .bool b → (b == want) = false → OpF E all o g τ (.tup []) τ
  | gone {j sl : Nat} {want : Bool} {vs : List D} : o.guard = some (j, want) → cr3 all j = some sl → v8 g sl = .tup vs → OpF E all o g τ (.tup []) τ
theorem dV7 {g:Fr}{s:Nat}{d:D} (h:v8 g s=d) (t:Nat):v8 (az9 g s d) t=v8 g t:=by
 have:=dx1 g (some s) d t
 simp only[put] at this
 rw[this]
 split
 ·rename_i e;cases e;exact h.symm
 ·rfl
theorem ec5 {g g' :Fr} (h:∀t,v8 g t=v8 g' t):I8 E.gl g=I8 E.gl g' :=funext fun x=>by
 cases x<;>simp only[I8]
 exact h _
theorem ed3 {n:Nat}{all:List Oper}{o:Oper}{g:Fr}{τ:i0}{k:Fr→i0→Qy} (hq:i4 E C Q (bU4 E true n all o g τ k)):
  bO9 n o.dst=true∧∃d s g',OpF E all o g τ d s∧(∀t,v8 g' t=v8 g t)∧i4 E C Q (k (put g' o.dst d) s):=by
 unfold bU4 at hq
 cases hd:bO9 n o.dst with
 | false=>simp only[hd,cond_false] at hq;exact hq.elim
 | true=>
  simp only[hd,cond_true] at hq
  refine⟨rfl,?_⟩
  cases hlit:bb7 all o with
  | true=>
   simp only[hlit,Bool.and_self,cond_true] at hq
   split at hq
   ·rename_i d hd
    have hg:o.guard=none:=by
     have:=hlit
     simp only[bb7,Bool.and_eq_true,Option.isNone_iff_eq_none] at this
     exact this.1
    exact⟨d,τ,g,.lit hg hlit hd,fun _=>rfl,hq⟩
   ·exact hq.elim
  | false=>
  simp only[hlit,Bool.and_false,cond_false] at hq
  cases hso:cQ1 E g τ o with
  | false=>simp only[hso,Bool.not_false,Bool.and_self,cond_true] at hq;exact hq.elim
  | true=>
  simp only[hso,Bool.not_true,Bool.and_false,cond_false] at hq
  cases hg:o.guard with
  | none=>
   simp only[hg] at hq
   obtain⟨d,s,h1,h2⟩:=aP1 _ hq
   exact⟨d,s,g,.run hlit hso (.inl hg) h1,fun _=>rfl,h2⟩
  | some gw=>
   obtain⟨j,want⟩:=gw
   simp only[hg] at hq
   split at hq
   ·exact hq.elim
   ·rename_i sl hs
    split at hq
    ·rename_i b hb
     have hq' :i4 E C Q (bif b==want then conv E true (kOp E.kp o.op) (fun d st=>k (put (az9 g sl (.bool b)) o.dst d) st) τ (aop E.P (I8 E.gl (az9 g sl (.bool b))) o τ) else k (put (az9 g sl (.bool b)) o.dst (.tup [])) τ):=hq
     have he:=dV7 hb
     cases hbw:(b==want) with
     | true=>
      rw[hbw] at hq'
      obtain⟨d,s,h1,h2⟩:=aP1 _ hq'
      rw[ec5 he] at h1
      exact⟨d,s,_,.run hlit hso (.inr ⟨j,want,sl,b,hg,hs,hb,hbw⟩) h1,he,h2⟩
     | false=>
      rw[hbw] at hq'
      exact⟨_,τ,_,.off hg hs hb hbw,he,hq'⟩
    ·rename_i vs hb
     exact⟨_,τ,g,.gone hg hs hb,fun _=>rfl,hq⟩
    ·exact hq.elim
def al7 (tabs:List F3) (j:Nat):Option Nat:=match tabs[j]? with | some t=>t.dst | none=>none
def V9 (tabs:List F3) (j:Nat):Nat:=match tabs[j]? with | some t=>t.kind | none=>0
def tLk (tabs:List F3) (j:Nat):List Nat:=match tabs[j]? with | some t=>t.looks | none=> []
def tBf (tabs:List F3) (j k:Nat):Bool:=match tabs[j]? with | some t=>t.before.testBit k | none=>false
def tSf (tabs:List F3) (j:Nat):Option Operand:=match tabs[j]? with | some t=>t.soft | none=>none
def bQ9 (tabs:List F3) (j k:Nat):Prop:=∃tj tk,tabs[j]? =some tj∧tabs[k]? =some tk∧bd5 tj tk=true
theorem cQ2 {t:F3}{b:Option Nat}:∀{bl:List (Nat×F3×Option Nat)},cq5 t b bl=true→∀x∈bl,t.before.testBit x.1=true∨bd5 t x.2.1=false∨dis t x.2.1 b x.2.2=true
 | [],_,x,hx=>by simp at hx
 | y::r,h,x,hx=>by
  simp only[cq5,Bool.and_eq_true,Bool.or_eq_true,Bool.not_eq_true'] at h
  rcases List.mem_cons.1 hx with rfl | hx
  ·rcases h.1 with(h | h) | h
   ·exact .inl h
   ·exact .inr (.inl h)
   ·exact .inr (.inr h)
  ·exact cQ2 h.2 x hx
def eD4 (tabs:List F3) (bv:Nat→Option Nat) (i:Nat) (bl:List (Nat×F3×Option Nat)):Prop:=∀k t,k<i→tabs[k]? =some t→(k,t,bv k)∈bl
structure dx5 (E:L6) (n:Nat) (all:List Oper) (tabs:List F3) (fr:Fr) (σ0:i0) (dv:Nat→D) (sv:Nat→i0) (bv:Nat→Option Nat) (j:Nat) (o:Oper):Prop where
 dst:bO9 n o.dst=true
 fact:∃g τ,ap3 (al7 tabs) dv fr (fun x=>x<j) g∧az4 (V9 tabs) sv σ0 (fun x=>x<j∧tBf tabs j x=true) τ∧OpF E all o g τ (dv j) (sv j)∧bv j=cg6 E.gl (tSf tabs j) g
 dis:∀k,k<j→tBf tabs j k=false→∀tj tk,tabs[j]? =some tj→tabs[k]? =some tk→bd5 tj tk=true→dis tj tk (bv j) (bv k)=true
theorem ct1 {n:Nat}{all:List Oper}{tabs:List F3} (hdst:∀(i:Nat) (o:Oper) (t:F3),all[i]? =some o→tabs[i]? =some t→t.dst=o.dst) {fr:Fr}{σ0:i0}{k:Fr→i0→Qy}:
  ∀(l:List Oper) (ts:List F3) (i:Nat) (g:Fr) (hist:List (Nat×i0)) (bl:List (Nat×F3×Option Nat)) (dv:Nat→D) (sv:Nat→i0) (bv:Nat→Option Nat),(∀x,x<l.length→l[x]? =all[i+x]?)→(∀x,x<ts.length→ts[x]? =tabs[i+x]?)→
  aw9 (V9 tabs) sv i hist→eD4 tabs bv i bl→ap3 (al7 tabs) dv fr (fun x=>x<i) g→i4 E C Q (bp6 E n all σ0 k i l ts g hist bl)→
  ∃dv' sv' bv',(∀j,j<i→dv' j=dv j∧sv' j=sv j∧bv' j=bv j)∧(∀j o,i≤j→j<i+l.length→all[j]? =some o→dx5 E n all tabs fr σ0 dv' sv' bv' j o)∧
   ∃g' σ',ap3 (al7 tabs) dv' fr (fun x=>x<i+l.length) g' ∧az4 (V9 tabs) sv' σ0 (fun x=>x<i+l.length) σ' ∧i4 E C Q (k g' σ')
 | [],[],i,g,hist,bl,dv,sv,bv,hl,ht,hh,hbl,hf,hq=>by
  simp only[bp6] at hq
  refine⟨dv,sv,bv,fun _ _=>⟨rfl,rfl,rfl⟩,fun j o hj hj2 ho=> ?_,g,_,by simpa using hf,by simpa using hh.last,hq⟩
  simp at hj2;omega
 | [],t::ts,i,g,hist,bl,dv,sv,bv,hl,ht,hh,hbl,hf,hq=>by simp only[bp6] at hq;exact hq.elim
 | o::l,[],i,g,hist,bl,dv,sv,bv,hl,ht,hh,hbl,hf,hq=>by simp only[bp6] at hq;exact hq.elim
 | o::l,t::ts,i,g,hist,bl,dv,sv,bv,hl,ht,hh,hbl,hf,hq=>by
  simp only[bp6] at hq
  cases hso:cq5 t (cg6 E.gl t.soft g) bl with
  | false=>rw[hso] at hq;exact hq.elim
  | true=>
  rw[hso] at hq
  simp only[cond_true] at hq
  have ho:all[i]? =some o:=by have:=hl 0 (by simp);simpa using this.symm
  have hti:tabs[i]? =some t:=by have:=ht 0 (by simp);simpa using this.symm
  obtain⟨h1,d,s,g',h2,h3,h4⟩:=ed3 hq
  have hd:al7 tabs i=o.dst:=by simp only[al7,hti];exact hdst i o t ho hti
  have hk:V9 tabs i=t.kind:=by simp only[V9,hti]
  let dv1:Nat→D:=fun j=>if j=i then d else dv j
  let sv1:Nat→i0:=fun j=>if j=i then s else sv j
  let bv1:Nat→Option Nat:=fun j=>if j=i then cg6 E.gl t.soft g else bv j
  have e5:∀j,j<i→bv1 j=bv j:=fun j hj=>by simp only[bv1];rw[if_neg (by omega)]
  have e6:bv1 i=cg6 E.gl t.soft g:=by simp only[bv1];rw[if_pos trivial]
  have hbl1:eD4 tabs bv1 (i+1) ((i,t,cg6 E.gl t.soft g)::bl):=fun k t' hk htk=>by
   rcases au9 hk with h | h
   ·rw[e5 k h];exact List.mem_cons_of_mem _ (hbl k t' h htk)
   ·subst h
    rw[hti] at htk
    obtain rfl:=Option.some.inj htk
    rw[e6];exact List.mem_cons_self
  have e1:∀j,j<i→dv1 j=dv j:=fun j hj=>by simp only[dv1];rw[if_neg (by omega)]
  have e2:∀j,j<i→sv1 j=sv j:=fun j hj=>by simp only[sv1];rw[if_neg (by omega)]
  have e3:dv1 i=d:=by simp only[dv1];rw[if_pos trivial]
  have e4:sv1 i=s:=by simp only[sv1];rw[if_pos trivial]
  have hf1:ap3 (al7 tabs) dv1 fr (fun x=>x<i+1) (put g' o.dst d):=by
   have:=((hf.congr e1).ext h3).put (i:=i) e3 (fun k t hk _ _=>by omega)
   rw[hd] at this
   exact this.iff fun j=>by omega
  have hh1:aw9 (V9 tabs) sv1 (i+1) (bif Nat.ble 2 t.kind then (i,s)::hist else hist):=by
   cases hb:Nat.ble 2 t.kind with
   | true=>
    rw[←e4]
    exact .cons (hh.congr e2) (by rw[hk];exact Nat.le_of_ble_eq_true hb)
   | false=>
    refine .skip (hh.congr e2) (fun h=> ?_)
    rw[hk] at h
    rw[Nat.ble_eq_true_of_le h] at hb;cases hb
  obtain⟨dv',sv',bv',a1,a2,g2,s2,a3,a4,a5⟩:=ct1 hdst l ts (i+1) _ _ _ dv1 sv1 bv1 (fun x hx=>by have:=hl (x+1) (by simpa using hx);simpa[Nat.add_assoc,Nat.add_comm 1] using this) (fun x hx=>by have:=ht (x+1) (by simpa using hx);simpa[Nat.add_assoc,Nat.add_comm 1] using this) hh1 hbl1 hf1 h4
  refine⟨dv',sv',bv',fun j hj=>⟨by rw[(a1 j (by omega)).1,e1 j hj],by rw[(a1 j (by omega)).2.1,e2 j hj],by rw[(a1 j (by omega)).2.2,e5 j hj]⟩,fun j o' hj hj2 ho' => ?_,g2,s2,a3.iff fun j=>by simp;omega,a4.iff fun j _=>by simp;omega,a5⟩
  rcases Nat.lt_or_ge i j with hlt | hge
  ·exact a2 j o' hlt (by simp at hj2;omega) ho'
  ·have:j=i:=by omega
   subst this
   rw[ho] at ho'
   obtain rfl:=Option.some.inj ho'
   refine⟨h1,⟨g,bW4 t.before σ0 hist,hf.congr (fun x hx=>by rw[(a1 x (by omega)).1,e1 x hx]),?_,?_,?_⟩,?_⟩
   ·have:=(hh.get (σ0:=σ0) t.before).congr (sv' :=sv') (fun x hx=>by rw[(a1 x (by omega)).2.1,e2 x hx.1])
    refine this.iff fun x _=> ?_
    simp only[tBf,hti]
   ·rw[(a1 j (by omega)).1,(a1 j (by omega)).2.1,e3,e4]
    exact h2
   ·rw[(a1 j (by omega)).2.2,e6]
    simp only[tSf,hti]
   ·intro k hk hbf tj tk q1 q2 q3
    rw[hti] at q1
    obtain rfl:=Option.some.inj q1
    rw[(a1 j (by omega)).2.2,e6,(a1 k (by omega)).2.2,e5 k hk]
    rcases cQ2 hso _ (hbl k tk hk q2) with h | h | h
    ·simp only[tBf,hti] at hbf;rw[hbf] at h;cases h
    ·rw[q3] at h;cases h
    ·exact h
end
end Go.RX
