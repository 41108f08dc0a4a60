/-
  Words and walks for LeaseOne. No condition.
-/
import Derived.OpenShut
import Derived.FnData
import Derived.Test.YtgkilbojgafldaaDoorLeaseOneY7
set_option linter.unusedSectionVars false
set_option linter.unnecessarySimpa false
namespace Go.RX
open Go Go.ChangeShapes
theorem ce0 {P:Program}{w:World}{x:String×DataW Unit}:∀{l:List (String×DataW Unit)}{ps:List MemPlace},DataW.LaidVars P w l ps→x∈l→
  ∃g t cs fuel p,P.globalNamed x.1=some g∧(P.globals[g]?).map (·.type)=some t∧w.var? P x.1=some cs∧DataW.trod (fun _=>()) P w 0 (fun _=>true) false fuel t cs.toList=some (x.2,p)
 | [],_,_,h=>by cases h
 | (n,d)::r,ps,hl,h=>by
  obtain⟨g,t,cs,fuel,p,q,h1,h2,h3,h4,h5,_⟩:=hl
  rcases List.mem_cons.1 h with rfl | h
  ·exact⟨g,t,cs,fuel,p,h1,h2,h3,h4⟩
  ·exact ce0 h5 h
theorem laid_ints {P:Program}{w:World}{φ:o8}{l:List (String×DataW Unit)}{name:String}{g:Nat}{t e:TypeId}{len:Nat}{k:IntKind}{ns:List Int} (h:laidMet P l w)
  (hm:(name,DataW.agg (ns.map fun n=> .lit (.int k n)))∈l) (hg:P.globalNamed name=some g) (ht:(P.globals[g]?).map (·.type)=some t)
  (hu:P.underlying t=some (.array len e)) (he:P.underlying e=some (.int k)) (hc:P.cellsOf e=1):
  i7 w (Old w) φ (.iptr 1 (ns.map (d7 k)) 0 0) (.pointer (some ⟨g,0,none⟩)):=by
 obtain⟨ps,hl,-⟩:=h
 obtain⟨g',t',cs,fuel,p,hg',ht',hv,hd⟩:=ce0 hl hm
 obtain rfl:=Option.some.inj (hg.symm.trans hg')
 obtain rfl:=Option.some.inj (ht.symm.trans ht')
 obtain⟨xs,m,rfl,hx,hlen,hn,hel⟩:=DataW.trod_array hu hd
 simp only[Prod.mk.injEq,DataW.agg.injEq] at hx
 have hxs:=hx.1
 have key:∀i n,ns[i]? =some n→w.cell? ⟨g,i,none⟩=some (.int k n):=by
  intro i n hi
  have h1:(xs.map (·.1))[i]? =some (.lit (.int k n)):=by rw[←hxs,List.getElem?_map,hi];rfl
  have hil:i<len:=by
   rw[←hn]
   have:=(List.getElem?_eq_some_iff.1 h1).1
   simpa using this
  have h2:=hel i hil
  cases hxi:xs[i]? with
  | none=>rw[List.getElem?_map,hxi] at h1;cases h1
  | some x=>
   rw[List.getElem?_map,hxi] at h1
   rw[hxi] at h2
   obtain⟨n',e1,e2,-⟩:=DataW.trod_int he h2
   have:n' =n:=by
    have:=Option.some.inj h1
    rw[e2] at this
    simpa using this
   subst this
   rw[World.var?_cell hg hv i]
   rw[hc,Nat.mul_one] at e1
   have e3:(cs.toList.drop i)[0]? =some (.int k n'):=by
    have:((cs.toList.drop i).take 1)[0]? =some (.int k n'):=by rw[e1];rfl
    simpa[List.getElem?_take] using this
   simpa using e3
 have hIm:Old w g:=by
  have hv' :=hv
  simp only[World.var?,hg,Option.bind_some] at hv'
  cases hh:w.heap[g]? with
  | none=>rw[hh] at hv';cases hv'
  | some x=>exact(Array.getElem?_eq_some_iff.1 hh).1
 have hr:=i7.iptr (w:=w) (Im:=Old w) (φ:=φ) 1 (ns.map (d7 k)) 0 0 g 0 (fun i j=>(w.cell? ⟨g,0+i*1+j,none⟩).getD default) (fun _=>hIm) ?_ ?_ ?_
 ·simpa using hr
 ·intro r hr
  obtain⟨n,-,rfl⟩:=List.mem_map.1 hr
  exact⟨rfl,rfl⟩
 ·intro i j r d h1 h2
  rw[List.getElem?_map] at h1
  cases hi:ns[i]? with
  | none=>rw[hi] at h1;cases h1
  | some n=>
   rw[hi] at h1
   obtain rfl:=Option.some.inj h1
   match j,h2 with
   | 0,h2=>
    show w.cell? _=some ((w.cell? _).getD default)
    have:=key i n hi
    simp only[Nat.zero_add,Nat.mul_one,Nat.add_zero] at*
    rw[this];rfl
 ·intro i j r d h1 h2
  rw[List.getElem?_map] at h1
  cases hi:ns[i]? with
  | none=>rw[hi] at h1;cases h1
  | some n=>
   rw[hi] at h1
   obtain rfl:=Option.some.inj h1
   match j,h2 with
   | 0,h2=>
    obtain rfl:=Option.some.inj h2
    have:=key i n hi
    show i7 w (Old w) [] _ ((w.cell? _).getD default)
    simp only[Nat.zero_add,Nat.mul_one,Nat.add_zero] at*
    rw[this]
    exact .int _ _
end Go.RX
