/-
  RX, the operations, seventh part: copy, clear, conversions, builtins, calls; all operations together ('aop_sat').
-/
import Derived.Test.YthooiaebbikjiaaRxOps6
set_option linter.unusedSimpArgs false
set_option linter.unusedVariables false
namespace Go.RX
open Go
section
variable {P : Program} {w : World} {Im : Nat → Prop} {φ : Phi} {σ : Sto}

theorem take_cells {n k : Nat} {new : List (List D)} {news : List Value} {dp : Bool} (hlen : news.length = new.length * n) (hk : k ≤ new.length)
    (hrel : ∀ (i j : Nat) (r : List D) (d : D), new[i]? = some r → r[j]? = some d → ∃ u, news[i * n + j]? = some u ∧ Rel w Im (if dp then φ else []) d u) (hrows : ∀ r ∈ new, RowOk n r) :
    (news.take (k * n)).length = (new.take k).length * n ∧ ∀ (i j : Nat) (r : List D) (d : D), (new.take k)[i]? = some r → r[j]? = some d → ∃ u, (news.take (k * n))[i * n + j]? = some u ∧ Rel w Im (if dp then φ else []) d u := by
  have := Nat.mul_le_mul_right n hk
  refine ⟨by simp; rw [Nat.min_eq_left hk]; omega, fun i j r d h1 h2 => ?_⟩
  rw [List.getElem?_take] at h1
  split at h1
  · rename_i hi
    obtain ⟨u, hu, hur⟩ := hrel i j r d h1 h2
    have hj := (List.getElem?_eq_some_iff.1 h2).1
    rw [(hrows r (List.mem_of_getElem? h1)).1] at hj
    exact ⟨u, by rw [List.getElem?_take, if_pos (row_lt hi hj)]; exact hu, hur⟩
  · cases h1

theorem copy_sat (hi : Inv w Im φ σ) {t tx ty : TypeId} {d s : D} {dv sv : Value} (hd : Rel w Im φ d dv) (hs : Rel w Im φ s sv) : SatV P w Im φ σ (Builtin.copy_ #[t, tx] ty #[dv, sv]) (copyD P t d s σ) := by
  unfold copyD
  split
  · rename_i e hu
    split
    · rename_i n sz dp cnt rows b i len lo ex hn hrows
      split
      · rename_i B hB
        split
        · rename_i hc
          obtain ⟨hc1, hc2, hc3⟩ := hc
          subst hc2
          refine needN_sat fun hcnt => ?_
          obtain ⟨news, hsrc⟩ := rows_src hi hs hrows hc1 hc3 hcnt
          obtain ⟨ie, g1, g2⟩ := info_of_szOf hn
          obtain ⟨l, cap, ad, hl, rfl, a1, a2, a3, a4, a5, a6⟩ := hd.msl_inv
          obtain ⟨l', hl', hk⟩ := hi.loc hB
          obtain rfl := Option.some.inj (hl.symm.trans hl')
          intro hb
          have hb' := Nat.le_of_ble_eq_true hb
          have hm : min rows.length len ≤ rows.length := Nat.min_le_left _ _
          have hm2 : min rows.length len ≤ len := Nat.min_le_right _ _
          obtain ⟨t1, t2⟩ := take_cells hsrc.len hm hsrc.rel hsrc.rows
          have hfit := hk.fit
          have hin : l.base + (i + min rows.length len) * B.sz ≤ l.size := by
            have := Nat.mul_le_mul_right B.sz (show i + min rows.length len ≤ B.rows.length by omega)
            omega
          have htl : (rows.take (min rows.length len)).length = min rows.length len := by simp
          obtain ⟨b1, b2⟩ := writeRows hi hB hl i (by omega) t1 (fun r hr => hsrc.rows r (List.mem_of_mem_take hr)) t2 (by rw [htl]; exact hin) true
          simp only [if_true, htl] at b1 b2
          refine ⟨.int .i64 ((min rows.length len : Nat) : Int), _, φ, ?_, PhiLe.refl _, b2, b1, .int _ _⟩
          -- the run
          have hlen : ∀ w' : World, (Builtin.lenOf sv).run P w' = .ok rows.length w' := by
            rcases hsrc.kind with ⟨a, c, rfl, _⟩ | ⟨rfl, h0, _⟩ | ⟨s', rfl, _, _, h0⟩
            · intro; rfl
            · intro; rw [h0]; rfl
            · intro; rw [h0]; rfl
          have hcells : (Builtin.firstCells ie.size (min rows.length len) sv).run P w = .ok (news.take (min rows.length len * B.sz)).toArray w := by
            rw [g2]
            rcases hsrc.kind with ⟨a, c, rfl, hcell⟩ | ⟨rfl, h0, h1⟩ | ⟨s', rfl, hs1, hs2, h0⟩
            · exact run_firstCells_some w B.sz (min rows.length len) a _ c _ (by rw [t1, htl]) (fun j u hj => hcell j u (by rw [List.getElem?_take] at hj; split at hj; exact hj; cases hj))
            · subst h0; subst h1; simpa using run_firstCells_none w B.sz 0 0 0
            · rw [hs1] at *
              simp only [Builtin.firstCells, Sem.run_pure, hs2, Nat.mul_one]
              congr 1
              apply Array.ext'
              simp [byteCells, ByteArray.data_extract, List.extract_eq_take_drop]
          have hst : (match (some ad : Option Addr) with | some a => storeCells a (news.take (min rows.length len * B.sz)) | none => pure ()).run P w = .ok () (w.setCells l.blk (l.base + i * B.sz) (news.take (min rows.length len * B.sz))) := by
            by_cases hcap : cap = 0
            · have h0 : min rows.length len = 0 := by omega
              rw [h0]; simp [storeCells, World.setCells]
            · obtain rfl := a6 hcap
              have hone : ∀ v ∈ news.take (min rows.length len * B.sz), v.oneCell' = true := fun v hv => hsrc.one v (List.mem_of_mem_take hv)
              have hmem : ∀ j, j < (news.take (min rows.length len * B.sz)).length → l.base + i * B.sz + j < l.size := fun j hj => by
                rw [t1, htl] at hj
                rw [Nat.add_mul] at hin
                omega
              have := run_storeCells_cells (P := P) l.blk (l.base + i * B.sz) _ 0 w (fun j hj => by simpa using (hk.mem _ (hmem j hj)).1) (fun j hj => by simpa using (hk.mem _ (hmem j hj)).2) hone
              rw [hk.sz]
              simpa using this
          have hmin : Nat.min rows.length len = min rows.length len := rfl
          rw [g2] at hcells
          have hst' : (storeCells ad (news.take (min rows.length len * B.sz))).run P w = .ok () (w.setCells l.blk (l.base + i * B.sz) (news.take (min rows.length len * B.sz))) := hst
          simp [Builtin.copy_, run_underlying hu, hlen, szOf_some hn, hmin, hcells, hst', goInt]
        · trivial
      · trivial
    · trivial
  · trivial

theorem clear_sat (hi : Inv w Im φ σ) {t ty : TypeId} {s : D} {sv : Value} (hs : Rel w Im φ s sv) : SatV P w Im φ σ (Builtin.clear_ #[t] ty #[sv]) (clearD P t s σ) := by
  unfold clearD
  split
  · rename_i e nsz rows hu
    obtain ⟨rfl, -⟩ := hs.nilsl_inv
    exact SatV.pure hi ⟨.tuple #[], by simp [Builtin.clear_, run_underlying hu], .tup _ _ (by simp) (fun i d v h => by simp at h)⟩
  · rename_i e b i len lo ex hu
    split
    · rename_i n zs B hn hzs hB
      split
      · rename_i hc
        obtain ⟨hc1, hc2, hc3, hc4⟩ := hc
        subst hc3
        intro hb
        have hb' := Nat.le_of_ble_eq_true hb
        cases hz : zeroD P e with
        | none => simp [hz] at hzs
        | some z =>
          obtain ⟨ie, zv, g1, g2, g3⟩ := zero_rel (w := w) (Im := Im) (φ := φ) hz
          simp only [hz, Option.bind_some] at hzs
          have hzr := rel_cells g3 hzs
          have hien : ie.size = B.sz := by unfold szOf at hn; simpa [g1] using hn
          have hzsz : zv.cells.size = B.sz := by rw [← hzr.1, hc1]
          obtain ⟨l, cap, ad, hl, rfl, a1, a2, a3, a4, a5, a6⟩ := hs.msl_inv
          obtain ⟨l', hl', hk⟩ := hi.loc hB
          obtain rfl := Option.some.inj (hl.symm.trans hl')
          have hrr := repl_rows (w := w) (Im := Im) (φ := φ) B.sz len zs zv.cells hzr hc1 hc2
          have hzc : Builtin.zeroCells zv.cells len = (Array.range (len * B.sz)).map (zv.cells[· % zv.cells.size]!) := by simp [Builtin.zeroCells, hzsz]
          have hsz : (Builtin.zeroCells zv.cells len).toList.length = len * B.sz := by rw [hzc]; simp
          have hrows : ∀ r ∈ List.replicate len zs, RowOk B.sz r := fun r hr => by rw [(List.mem_replicate.1 hr).2]; exact ⟨hc1, hc4⟩
          have hfit := hk.fit
          have hin : l.base + (i + len) * B.sz ≤ l.size := by
            have := Nat.mul_le_mul_right B.sz hb'
            omega
          have hrel : ∀ (i j : Nat) (r : List D) (d : D), (List.replicate len zs)[i]? = some r → r[j]? = some d → ∃ u, (Builtin.zeroCells zv.cells len).toList[i * B.sz + j]? = some u ∧ Rel w Im (if zs.any hasRef1 then φ else []) d u := fun i j r d h1 h2 => by
            obtain ⟨u, hu, hur⟩ := hrr.2.2 i j r d h1 h2
            have hrz := (List.mem_replicate.1 (List.mem_of_getElem? h1)).2
            refine ⟨u, by rw [hzc, Array.getElem?_toList]; exact hu, ?_⟩
            rw [hrz] at h2
            exact rel_flag hc4 (fun h => h) h2 hur
          obtain ⟨b1, b2⟩ := writeRows hi hB hl i (by omega) (new := List.replicate len zs) (by rw [hsz]; simp) hrows hrel (by simpa using hin) true
          simp only [if_true, List.length_replicate] at b1 b2
          refine ⟨.tuple #[], _, φ, ?_, PhiLe.refl _, b2, b1, .tup _ _ (by simp) (fun i d v h => by simp at h)⟩
          by_cases h0 : len = 0
          · subst h0
            have : (Builtin.zeroCells zv.cells 0).toList = [] := List.eq_nil_of_length_eq_zero (by rw [hsz]; simp)
            rw [this]
            simp [Builtin.clear_, run_underlying hu, World.setCells]
          · obtain rfl := a6 (by omega)
            have hone : ∀ v ∈ (Builtin.zeroCells zv.cells len).toList, v.oneCell' = true := fun v hv => by
              obtain ⟨p, hp, rfl⟩ := List.getElem_of_mem hv
              have hp' := hp
              rw [hsz] at hp'
              have h1 : p / B.sz < len := (Nat.div_lt_iff_lt_mul hc2).2 hp'
              have h2 : p % B.sz < B.sz := Nat.mod_lt _ hc2
              have h3 : p / B.sz * B.sz + p % B.sz = p := by rw [Nat.mul_comm]; exact Nat.div_add_mod p B.sz
              obtain ⟨u, hu', hur⟩ := hrel (p / B.sz) (p % B.sz) zs (zs[p % B.sz]'(by omega)) (by simp [List.getElem?_replicate, h1]) (by simp)
              rw [h3, List.getElem?_eq_getElem hp] at hu'
              rw [Option.some.inj hu']
              exact hur.one (List.all_eq_true.1 hc4 _ (List.getElem_mem _))
            have hmem : ∀ j, j < (Builtin.zeroCells zv.cells len).toList.length → l.base + i * B.sz + j < l.size := fun j hj => by
              rw [hsz] at hj
              rw [Nat.add_mul] at hin
              omega
            have := run_storeCells_cells (P := P) l.blk (l.base + i * B.sz) _ 0 w (fun j hj => by simpa using (hk.mem _ (hmem j hj)).1) (fun j hj => by simpa using (hk.mem _ (hmem j hj)).2) hone
            simp only [Nat.add_zero] at this
            rw [hk.sz]
            obtain ⟨m, rfl⟩ : ∃ m, len = m + 1 := ⟨len - 1, by omega⟩
            simp only [Builtin.clear_]
            simp [run_underlying hu, zeroValue, typeInfo, g1, g2, this]
      · trivial
    · trivial
  · trivial

theorem freeze_alloc (w : World) (cs : Array Value) (e : TypeId) : (w.alloc (.cells cs e (0, 0))).freeze ⟨w.heap.size, cs.size, none⟩ 1 = w.alloc (.cells cs e (cs.size, cs.size + 1)) := by
  simp only [World.freeze]
  rw [if_neg (by omega)]
  show ({ w with heap := (w.heap.push (.cells cs e (0, 0))).modify w.heap.size _ } : World) = { w with heap := w.heap.push (.cells cs e (cs.size, cs.size + 1)) }
  congr 1
  apply Array.ext
  · simp
  · intro i h1 h2
    simp only [Array.getElem_modify, Array.getElem_push]
    by_cases hi : w.heap.size = i
    · subst hi; simp
    · simp only [if_neg hi]
      split
      · rfl
      · exfalso; simp at h2; omega

theorem rowsStr_ints {xv : Value} {dp : Bool} {rows : List (List D)} {news : List Value} {bs : List UInt8} (h : SrcOk w Im φ xv 1 dp rows news) (hb : rowsStr rows = some bs) :
    ∃ ns : List Int, news = ns.map (Value.int .u8) ∧ (ns.map fun n => UInt8.ofNat n.toNat) = bs := by
  have hl := h.len
  have hr := h.rel
  clear h
  rw [Nat.mul_one] at hl
  induction rows generalizing news bs with
  | nil => simp [rowsStr] at hb; subst hb; simp at hl; subst hl; exact ⟨[], rfl, rfl⟩
  | cons r rows ih =>
    cases news with
    | nil => simp at hl
    | cons v news =>
      simp only [rowsStr] at hb
      split at hb
      · rename_i n
        split at hb
        · rename_i s hs
          obtain rfl := Option.some.inj hb
          obtain ⟨ns, h1, h2⟩ := ih (news := news) hs (by simpa using hl) (fun i j r d a b => by
            obtain ⟨u, hu, hur⟩ := hr (i + 1) j r d (by simpa using a) b
            refine ⟨u, ?_, hur⟩
            rw [show (i + 1) * 1 + j = (i * 1 + j) + 1 by omega] at hu
            simpa using hu)
          obtain ⟨u, hu, hur⟩ := hr 0 0 [.int .u8 n] (.int .u8 n) rfl rfl
          simp at hu
          subst hu
          have := hur.int_inv
          subst this
          exact ⟨n :: ns, by simp [h1], by simp [h2]⟩
        · cases hb
      · cases hb

theorem conv_sat (hi : Inv w Im φ σ) {s d : TypeId} {x : D} {xv : Value} (hx : Rel w Im φ x xv) : SatV P w Im φ σ (convert s d xv) (convD P s d x σ) := by
  unfold convD
  split
  · rename_i k1 k k2 n h1 h2
    obtain rfl := hx.int_inv
    exact SatV.pure hi ⟨_, by simp [convert, run_underlying h1, run_underlying h2, Conv.intToInt], .int _ _⟩
  · rename_i b h1 h2
    obtain ⟨s', rfl, rfl⟩ := hx.str_inv
    exact SatV.pure hi ⟨_, by simp [convert, run_underlying h1, run_underlying h2], .str _ _ rfl⟩
  · rename_i e l h1 h2
    obtain ⟨b, rfl, rfl⟩ := hx.str_inv
    split
    · rename_i h3
      generalize hcap : (Question.appendCap b.size 0 e).cut (w.tape w.drawn (.appendCap b.size 0 e)) = cap
      have hge : b.size ≤ cap := by rw [← hcap]; simp [Question.cut]
      have hbs : b.data.toList.length = b.size := by simp
      have harr : ((b.data.map fun (c : UInt8) => Value.int .u8 c.toNat) ++ Array.replicate (cap - b.size) (Value.int .u8 0)).size = cap := by
        simp
        have : b.data.size = b.size := rfl
        omega
      have hget : ∀ (i : Nat) (c : UInt8), b.data.toList[i]? = some c → ((b.data.map fun (c : UInt8) => Value.int .u8 c.toNat) ++ Array.replicate (cap - b.size) (Value.int .u8 0))[i * 1 + 0]? = some (.int .u8 c.toNat) := fun i c hc => by
        have hlt := (List.getElem?_eq_some_iff.1 hc).1
        rw [Nat.mul_one, Nat.add_zero, Array.getElem?_append_left (by simpa using hlt)]
        simp at hc ⊢
        exact ⟨c, hc, rfl⟩
      have hg := newRow_good (e := e) (w := w.drew) hi.drew (n := 1) (rows := b.data.toList.map fun c => [.int .u8 (c.toNat : Int)]) (cs := (b.data.map fun (c : UInt8) => Value.int .u8 c.toNat) ++ Array.replicate (cap - b.size) (Value.int .u8 0)) (cap, cap + 1)
        (fun o ho => by rw [harr] at ho; simp only; omega) (fun r hr => by
          simp only [List.mem_map] at hr
          obtain ⟨c, _, rfl⟩ := hr
          rfl) (by rw [harr]; simp; have : b.data.size = b.size := rfl; omega) (fun i j r d g1 g2 => by
          simp only [List.getElem?_map, Option.map_eq_some_iff] at g1
          obtain ⟨c, hc, rfl⟩ := g1
          cases j with
          | zero => simp at g2; subst g2; exact ⟨_, hget i c hc, .int _ _⟩
          | succ j => simp at g2) (fun r hr => by
          simp only [List.mem_map] at hr
          obtain ⟨c, _, rfl⟩ := hr
          rfl) false (fun r hr h => by
          simp only [List.mem_map] at hr
          obtain ⟨c, _, rfl⟩ := hr
          simp [hasRef1] at h) b.data.toList.length cap b.data.toList.length false (Nat.le_refl _) (by rw [hbs]; exact hge) (fun h => by cases h) (by rw [harr]; omega)
      refine ⟨_, _, _, ?_, Good.after (PhiLe.refl _) (Nat.le_refl _) (Tr.drew _ _ _ _ _) hg⟩
      have hfr := freeze_alloc w.drew ((b.data.map fun (c : UInt8) => Value.int .u8 c.toNat) ++ Array.replicate (cap - b.size) (Value.int .u8 0)) e
      rw [harr] at hfr
      have hsz : w.drew.heap.size = w.heap.size := rfl
      have hshape : (w.drew.alloc (.cells ((b.data.map fun (c : UInt8) => Value.int .u8 c.toNat) ++ Array.replicate (cap - b.size) (Value.int .u8 0)) e)).shape? w.heap.size = some (e, cap) := by
        have : (w.drew.alloc (.cells ((b.data.map fun (c : UInt8) => Value.int .u8 c.toNat) ++ Array.replicate (cap - b.size) (Value.int .u8 0)) e)).heap[w.heap.size]? = some (.cells ((b.data.map fun (c : UInt8) => Value.int .u8 c.toNat) ++ Array.replicate (cap - b.size) (Value.int .u8 0)) e) := by
          rw [show (w.drew.alloc (.cells ((b.data.map fun (c : UInt8) => Value.int .u8 c.toNat) ++ Array.replicate (cap - b.size) (Value.int .u8 0)) e)).heap = w.heap.push _ from rfl]; simp
        simp only [World.shape?, this, harr]
      rw [hsz] at hfr hg
      rw [← hfr, hbs]
      have hf : (Question.appendCap b.size 0 e).forced = false := rfl
      have hdr : ({ w with drawn := w.drawn + 1 } : World) = w.drew := rfl
      simp only [convert, run_underlying h1, run_underlying h2, run_underlying h3, Sem.run_bind, Result.andThen_ok, Conv.stringToBytes, choose, Sem.run, hf, Bool.false_eq_true, if_false, hcap, hdr, newRow, newObj, markStringish, shape]
      show ((Sem.run P (Pure.pure _) (w.drew.alloc _)).andThen _) = _
      simp only [Sem.run_pure, Result.andThen_ok, hshape]
      simp [freeze, Sem.run]
    · trivial
  · rename_i x' e h1 h2
    split
    · rename_i sz dq cnt rows h3 h4 h5
      split
      · rename_i hsz
        obtain ⟨hsz, hnstr⟩ := hsz
        refine needN_sat fun hcnt => ?_
        intro bs hbs
        obtain ⟨news, hsrc⟩ := rows_src hi hx h5 hsz (by omega) hcnt
        refine SatV.pure hi ?_
        obtain ⟨ns, hns1, hns2⟩ := rowsStr_ints hsrc hbs
        rcases hsrc.kind with ⟨a, c, rfl, hcell⟩ | ⟨rfl, h0, h00⟩ | ⟨s', rfl, _, _, _⟩
        · refine ⟨.string (ns.foldl (fun r n => r.push (UInt8.ofNat n.toNat)) ByteArray.empty), ?_, .str _ _ ?_⟩
          · rw [run_convert_bytes_string w s d e _ _ _ h1 h3 h2]
            refine run_bytesToString w a _ c ns ?_
            rw [← hns1]
            have := run_loadCells_list (P := P) w a news hcell
            rw [hsrc.len, Nat.mul_one] at this
            exact this
          · rw [← hns2]
            have key : ∀ (l : List Int) (b : ByteArray), (l.foldl (fun r (n : Int) => r.push (UInt8.ofNat n.toNat)) b).data.toList = b.data.toList ++ l.map fun n => UInt8.ofNat n.toNat := by
              intro l
              induction l with
              | nil => intro b; simp
              | cons x l ih => intro b; simp only [List.foldl_cons, List.map_cons]; rw [ih]; simp
            rw [key]; simp
        · subst h0
          simp [rowsStr] at hbs
          subst hbs
          exact ⟨.string .empty, by rw [run_convert_bytes_string w s d e _ _ _ h1 h3 h2]; simp [Conv.bytesToString], .str _ _ rfl⟩
        · cases hx with
          | undef => simp [rowsD] at h5
          | str => simp [isStr] at hnstr
      · trivial
    · trivial
  · trivial

end
end Go.RX
