/-
  RX, the operations, eighth part: builtins, calls; 'aop_sat'.
-/
import Derived.Test.YthooiaebbikjiaaRxOps7
set_option linter.unusedSimpArgs false
set_option linter.unusedVariables false
namespace Go.RX
open Go
section
variable {P : Program} {w : World} {Im : Nat → Prop} {φ : Phi} {σ : Sto}

theorem len_sat (hi : Inv w Im φ σ) {t ty : TypeId} {x : D} {xv : Value} (hx : Rel w Im φ x xv) :
    SatV P w Im φ σ (Builtin.len_ #[t] ty #[xv]) (lenOp P t x σ) := by
  unfold lenOp
  split
  · rename_i n e hu
    exact SatV.pure hi ⟨_, by simp [Builtin.len_, run_underlying hu, goInt], .int _ _⟩
  · rename_i e nl sz rows hu
    cases nl with
    | true => obtain ⟨rfl, rfl⟩ := hx.nilsl_inv; exact SatV.pure hi ⟨_, by simp [Builtin.len_, run_underlying hu, goInt], .int _ _⟩
    | false => obtain ⟨c, base, cap, rfl, -⟩ := hx.sl_inv; exact SatV.pure hi ⟨_, by simp [Builtin.len_, run_underlying hu, goInt], .int _ _⟩
  · rename_i e b i len lo ex hu
    obtain ⟨l, cap, a, -, rfl, -⟩ := hx.msl_inv
    exact SatV.pure hi ⟨_, by simp [Builtin.len_, run_underlying hu, goInt], .int _ _⟩
  · rename_i s hu
    obtain ⟨b, rfl, rfl⟩ := hx.str_inv
    refine SatV.pure hi ⟨.int .i64 (b.data.toList.length : Int), ?_, .int _ _⟩
    simp [Builtin.len_, run_underlying hu, goInt]
  · trivial

theorem cap_sat (hi : Inv w Im φ σ) {t ty : TypeId} {x : D} {xv : Value} (hx : Rel w Im φ x xv) :
    SatV P w Im φ σ (Builtin.cap_ #[t] ty #[xv]) (capOp P t x σ) := by
  unfold capOp
  split
  · rename_i e sz rows hu
    obtain ⟨rfl, rfl⟩ := hx.nilsl_inv; exact SatV.pure hi ⟨_, by simp [Builtin.cap_, run_underlying hu, goInt], .int _ _⟩
  · rename_i e b i len lo hu
    obtain ⟨l, cap, a, -, rfl, -, -, h, -⟩ := hx.msl_inv
    obtain rfl := h rfl
    exact SatV.pure hi ⟨_, by simp [Builtin.cap_, run_underlying hu, goInt], .int _ _⟩
  · trivial

theorem mn_run : ∀ (ds : List D) (vs : List Value) (k : IntKind) (x : Int) (d : D), ds.length = vs.length → (∀ (i : Nat) (d : D) (v : Value), ds[i]? = some d → vs[i]? = some v → Rel w Im φ d v) →
    ds.foldl mnStep (some (.int k x)) = some d →
    ∃ k' y, d = .int k' y ∧ (vs.foldlM Builtin.min2 (.int k x)).run P w = .ok (.int k' y) w
  | [], [], k, x, d, _, _, h => by simp at h; exact ⟨k, x, h.symm, by simp⟩
  | e :: ds, v :: vs, k, x, d, hl, hr, h => by
    have hev := hr 0 e v rfl rfl
    have hnone : ∀ (l : List D), l.foldl mnStep (none : Option D) = none := by
      intro l; induction l with
      | nil => rfl
      | cons a l ih => exact ih
    rw [List.foldl_cons] at h
    obtain ⟨k2, y, rfl⟩ : ∃ k2 y, e = .int k2 y := by
      cases e <;> first | exact ⟨_, _, rfl⟩ | (simp only [mnStep] at h; rw [hnone] at h; cases h)
    obtain rfl := hev.int_inv
    obtain ⟨k', z, h1, h2⟩ := mn_run ds vs k _ d (by simpa using hl) (fun i d v a b => hr (i + 1) d v (by simpa using a) (by simpa using b)) h
    exact ⟨k', z, h1, by simp only [List.foldlM_cons, Sem.run_bind, Builtin.min2, Sem.run_pure, Result.andThen_ok]; exact h2⟩
  | [], _ :: _, _, _, _, hl, _, _ => by simp at hl
  | _ :: _, [], _, _, _, hl, _, _ => by simp at hl

theorem mx_run : ∀ (ds : List D) (vs : List Value) (k : IntKind) (x : Int) (d : D), ds.length = vs.length → (∀ (i : Nat) (d : D) (v : Value), ds[i]? = some d → vs[i]? = some v → Rel w Im φ d v) →
    ds.foldl mxStep (some (.int k x)) = some d →
    ∃ k' y, d = .int k' y ∧ (vs.foldlM Builtin.max2 (.int k x)).run P w = .ok (.int k' y) w
  | [], [], k, x, d, _, _, h => by simp at h; exact ⟨k, x, h.symm, by simp⟩
  | e :: ds, v :: vs, k, x, d, hl, hr, h => by
    have hev := hr 0 e v rfl rfl
    have hnone : ∀ (l : List D), l.foldl mxStep (none : Option D) = none := by
      intro l; induction l with
      | nil => rfl
      | cons a l ih => exact ih
    rw [List.foldl_cons] at h
    obtain ⟨k2, y, rfl⟩ : ∃ k2 y, e = .int k2 y := by
      cases e <;> first | exact ⟨_, _, rfl⟩ | (simp only [mxStep] at h; rw [hnone] at h; cases h)
    obtain rfl := hev.int_inv
    obtain ⟨k', z, h1, h2⟩ := mx_run ds vs k _ d (by simpa using hl) (fun i d v a b => hr (i + 1) d v (by simpa using a) (by simpa using b)) h
    exact ⟨k', z, h1, by simp only [List.foldlM_cons, Sem.run_bind, Builtin.max2, Sem.run_pure, Result.andThen_ok]; exact h2⟩
  | [], _ :: _, _, _, _, hl, _, _ => by simp at hl
  | _ :: _, [], _, _, _, hl, _, _ => by simp at hl

variable (w Im φ) in
def ArgsRel (ds : List D) (vs : List Value) : Prop := ds.length = vs.length ∧ ∀ (i : Nat) (d : D) (v : Value), ds[i]? = some d → vs[i]? = some v → Rel w Im φ d v

theorem args_rel {ρ : Operand → D} {ρc : Operand → Value} (hρ : ∀ x, Rel w Im φ (ρ x) (ρc x)) (args : List Operand) : ArgsRel w Im φ (args.map ρ) (args.map ρc) :=
  ⟨by simp, fun i d v h1 h2 => by
    simp only [List.getElem?_map, Option.map_eq_some_iff] at h1 h2
    obtain ⟨x, hx, rfl⟩ := h1
    obtain ⟨y, hy, rfl⟩ := h2
    obtain rfl := Option.some.inj (hx.symm.trans hy)
    exact hρ _⟩

theorem ArgsRel.one {x : D} {vs : List Value} (h : ArgsRel w Im φ [x] vs) : ∃ v, vs = [v] ∧ Rel w Im φ x v := by
  obtain ⟨h1, h2⟩ := h
  match vs, h1 with
  | [v], _ => exact ⟨v, rfl, h2 0 x v rfl rfl⟩
theorem ArgsRel.two {x y : D} {vs : List Value} (h : ArgsRel w Im φ [x, y] vs) : ∃ v u, vs = [v, u] ∧ Rel w Im φ x v ∧ Rel w Im φ y u := by
  obtain ⟨h1, h2⟩ := h
  match vs, h1 with
  | [v, u], _ => exact ⟨v, u, rfl, h2 0 x v rfl rfl, h2 1 y u rfl rfl⟩

theorem builtin_sat (hi : Inv w Im φ σ) {b : Builtin} {ts : Array TypeId} {ty : TypeId} {consts : Array Bool} {ds : List D} {vs : Array Value} (h : ArgsRel w Im φ ds vs.toList) :
    SatA P w Im φ σ (builtin b ts ty consts vs) (builtinD P b ts.toList ds σ) := by
  have harr : ∀ l : List Value, vs.toList = l → vs = l.toArray := fun l hl => by rw [← hl]
  have hts : ∀ l : List TypeId, ts.toList = l → ts = l.toArray := fun l hl => by rw [← hl]
  unfold builtinD
  split
  · rename_i x t h1
    obtain ⟨v, hv, hx⟩ := h.one
    obtain rfl := harr _ hv
    obtain rfl := hts _ h1
    exact SatV.toA (len_sat hi hx)
  · rename_i x t h1
    obtain ⟨v, hv, hx⟩ := h.one
    obtain rfl := harr _ hv
    obtain rfl := hts _ h1
    exact SatV.toA (cap_sat hi hx)
  · rename_i s x t t' h1
    obtain ⟨v, u, hv, hs, hx⟩ := h.two
    obtain rfl := harr _ hv
    obtain rfl := hts _ h1
    split
    · rename_i e hd hk
      refine SatV.toA (append_sat hi hs hx hd (.inl ⟨_, rfl⟩) (fun b hb => ?_) (fun a n c _ => ⟨_, rfl⟩))
      subst hb
      cases hx <;> simp [srcKind] at hk
    · rename_i hd hk
      refine SatV.toA (append_sat hi hs hx hd (.inr rfl) (fun b hb => rfl) (fun a n c hb => ?_))
      subst hb
      cases hx <;> simp [srcKind] at hk
    · trivial
  · rename_i d s t t' h1
    obtain ⟨v, u, hv, hd, hs⟩ := h.two
    obtain rfl := harr _ hv
    obtain rfl := hts _ h1
    exact SatV.toA (copy_sat hi hd hs)
  · rename_i s t h1
    obtain ⟨v, hv, hs⟩ := h.one
    obtain rfl := harr _ hv
    obtain rfl := hts _ h1
    exact SatV.toA (clear_sat hi hs)
  · refine SatV.toA (SatV.opt hi fun d hd => ?_)
    unfold mnD at hd
    split at hd
    · rename_i k x r
      obtain ⟨h1, h2⟩ := h
      cases hvs : vs.toList with
      | nil => rw [hvs] at h1; simp at h1
      | cons v rest =>
        rw [hvs] at h1 h2
        obtain rfl := (h2 0 _ v rfl rfl).int_inv
        obtain ⟨k', y, rfl, h3⟩ := mn_run r rest k x d (by simpa using h1) (fun i d v a b => h2 (i + 1) d v (by simpa using a) (by simpa using b)) hd
        exact ⟨_, by simp only [Builtin.min_, hvs]; exact h3, .int _ _⟩
    · cases hd
  · refine SatV.toA (SatV.opt hi fun d hd => ?_)
    unfold mxD at hd
    split at hd
    · rename_i k x r
      obtain ⟨h1, h2⟩ := h
      cases hvs : vs.toList with
      | nil => rw [hvs] at h1; simp at h1
      | cons v rest =>
        rw [hvs] at h1 h2
        obtain rfl := (h2 0 _ v rfl rfl).int_inv
        obtain ⟨k', y, rfl, h3⟩ := mx_run r rest k x d (by simpa using h1) (fun i d v a b => h2 (i + 1) d v (by simpa using a) (by simpa using b)) hd
        exact ⟨_, by simp only [Builtin.max_, hvs]; exact h3, .int _ _⟩
    · cases hd
  · trivial

theorem callFunc_run {g : FuncId} (h : callable P g = true) (vs : Array Value) : (callFunc g vs).run P w = .ok (.enter g vs) w := by
  unfold callable at h
  cases hf : P.funcs[g]? with
  | none => simp [hf] at h
  | some fn =>
    simp only [hf, Bool.and_eq_true, Bool.not_eq_true'] at h
    have h2 : fn.body.isNone = false := by cases hb : fn.body <;> simp_all
    have h3 : ¬ fn.name = "runtime.NumGoroutine" := by simpa using h.2
    have h4 : ¬ fn.body = none := fun e => by rw [e] at h2; simp at h2
    simp [callFunc, hf, h3, h4]

theorem call_sat (hi : Inv w Im φ σ) {ρ : Operand → D} {ρc : Operand → Value} (hρ : ∀ x, Rel w Im φ (ρ x) (ρc x)) (c : Call) (ty : TypeId) :
    SatA P w Im φ σ (do let d ← resolve ρc c ty; invoke d.target d.args) (callD P c ρ σ) := by
  have hargs := args_rel hρ c.args.toList
  unfold callD
  split
  · rename_i b hb
    have hr : (do let d ← resolve ρc c ty; invoke d.target d.args : Sem Next) = builtin b c.argTypes ty (c.args.map fun | .const _ => true | _ => false) (c.args.map ρc) := by
      simp only [resolve, hb]; rfl
    rw [hr]
    exact builtin_sat hi (by simpa using hargs)
  · rename_i f hf
    have hfr := hρ f
    split
    · rename_i g first caps hg
      rw [hg] at hfr
      split
      · rename_i hc
        cases hv : ρc f with
        | func fn vf vc =>
          rw [hv] at hfr
          cases hfr with
          | fn _ _ _ _ _ h1 h2 h3 h4 =>
            refine ⟨vf ++ c.args.map ρc ++ vc, ?_, by simp [h1, h2], fun i d v a b => ?_⟩
            · simp [resolve, hf, Deferred.ofValue, hv, invoke, callFunc_run hc]
            · rw [List.append_assoc] at a
              rw [Array.append_assoc] at b
              by_cases q1 : i < first.length
              · rw [List.getElem?_append_left q1] at a
                rw [Array.getElem?_append_left (by omega)] at b
                exact h3 i d v a b
              · rw [List.getElem?_append_right (by omega)] at a
                rw [Array.getElem?_append_right (by omega)] at b
                by_cases q2 : i - first.length < c.args.size
                · rw [List.getElem?_append_left (by simpa using q2)] at a
                  rw [Array.getElem?_append_left (by simp; omega), ← h1] at b
                  exact hargs.2 _ d v a (by simpa using b)
                · rw [List.getElem?_append_right (by simp; omega)] at a
                  rw [Array.getElem?_append_right (by simp; omega), ← h1] at b
                  exact h4 _ d v a (by simpa using b)
        | _ => rw [hv] at hfr; cases hfr
      · trivial
    · trivial
  · trivial

theorem aop_sat (hi : Inv w Im φ σ) {ρ : Operand → D} {ρc : Operand → Value} (hρ : ∀ x, Rel w Im φ (ρ x) (ρc x)) (o : Oper) : SatA P w Im φ σ (execOp ρc o) (aop P ρ o σ) := by
  unfold aop execOp
  cases hop : o.op
  case move x =>
    simp only []
    exact ⟨_, w, φ, .inl rfl, Good.refl hi (hρ x)⟩
  case assign x =>
    simp only []
    exact ⟨_, w, φ, .inl rfl, Good.refl hi (hρ x)⟩
  case pick c a b =>
    simp only []
    split
    · rename_i x hx
      have hc := hρ c
      rw [hx] at hc
      have hcv := hc.bool_inv
      show SatA P w Im φ σ _ (.ok (if x then ρ a else ρ b) σ)
      refine ⟨_, w, φ, .inl (by simp [hcv, asBool]; rfl), Good.refl hi ?_⟩
      cases x
      · exact hρ b
      · exact hρ a
    · trivial
  case alloc t =>
    simp only []
    exact SatV.toA (allocOp_sat hi)
  case box t x =>
    simp only []
    exact SatV.toA (box_sat hi (hρ x))
  case build t parts =>
    simp only []
    obtain ⟨h1, h2⟩ := parts_rel hρ parts
    exact SatV.toA (build_sat hi h1 h2)
  case buildSlice t len parts =>
    simp only []
    obtain ⟨h1, h2⟩ := parts_rel hρ parts
    exact SatV.toA (buildSlice_sat hi h1 h2)
  case load t a =>
    simp only []
    exact SatV.toA (load_sat hi (hρ a))
  case store t a x =>
    simp only []
    exact SatU (store_sat hi (hρ a) (hρ x))
  case nilCheck x =>
    simp only []
    have hx := hρ x
    generalize ρ x = d at hx ⊢
    generalize ρc x = v at hx ⊢
    cases d <;> first | exact True.intro | skip
    · obtain ⟨l, hl, rfl⟩ := hx.ptr_inv
      exact ⟨_, w, φ, .inl rfl, Good.refl hi hx⟩
    · obtain ⟨c, base, rfl, -⟩ := hx.iptr_inv
      exact ⟨_, w, φ, .inl rfl, Good.refl hi hx⟩
    · obtain ⟨f, va, vb, rfl⟩ : ∃ f va vb, v = .func (.func f) va vb := by cases hx; exact ⟨_, _, _, rfl⟩
      exact ⟨_, w, φ, .inl rfl, Good.refl hi hx⟩
    · obtain ⟨t, va, rfl⟩ : ∃ t va, v = .iface t va := by cases hx; exact ⟨_, _, rfl⟩
      exact ⟨_, w, φ, .inl rfl, Good.refl hi hx⟩
  case binOp op t x y yt =>
    simp only []
    exact SatV.toA (bin_sat hi op t x y (hρ x) (hρ y))
  case unOp op t x =>
    simp only []
    exact SatV.toA (un_sat hi op (hρ x))
  case convert s d x =>
    simp only []
    exact SatV.toA (conv_sat hi (hρ x))
  case makeFunc fn first caps =>
    cases fn <;> first | trivial | skip
    rename_i f
    simp only []
    refine ⟨_, w, φ, .inl (by simp [Instr.makeFunc]; rfl), Good.refl hi ?_⟩
    obtain ⟨h1, h2⟩ := args_rel hρ first.toList
    obtain ⟨h3, h4⟩ := args_rel hρ caps.toList
    exact .fn _ _ _ _ _ (by simp) (by simp) (fun i d v a b => h2 i d v a (by simpa using b)) (fun i d v a b => h4 i d v a (by simpa using b))
  case makeSlice t l c =>
    simp only []
    have hl := hρ l
    have hc := hρ c
    split
    · rename_i k a k' b h1 h2
      rw [h1] at hl
      rw [h2] at hc
      rw [hl.int_inv, hc.int_inv]
      exact SatV.toA (makeSlice_sat hi)
    · trivial
  case slice t x lo hh mx =>
    simp only []
    split
    · rename_i l h' m h1 h2 h3
      exact SatV.toA (slice_sat hi (hρ x) (argIs_of hρ h1) (argIs_of hρ h2) (argIs_of hρ h3))
    · trivial
  case fieldAddr t x f =>
    simp only []
    exact SatV.toA (fieldAddr_sat hi (hρ x) f)
  case field t x f =>
    simp only []
    exact SatV.toA (SatV.opt hi fun d hd => field_run (hρ x) hd)
  case indexAddr t x i =>
    simp only []
    have hr := hρ i
    split
    · rename_i k n h1
      rw [h1] at hr
      rw [hr.int_inv]
      exact SatV.toA (indexAddr_sat hi (hρ x) k n)
    · trivial
  case index t x i =>
    simp only []
    have hr := hρ i
    split
    · rename_i k n h1
      rw [h1] at hr
      rw [hr.int_inv]
      exact SatV.toA (index_sat hi (hρ x) k n)
    · trivial
  case extract x i =>
    simp only []
    have hr := hρ x
    split
    · rename_i vs h1
      rw [h1] at hr
      obtain ⟨us, hv, h2, h3⟩ := hr.tup_inv
      refine SatV.toA (SatV.opt hi fun d hd => ?_)
      have hlt := (List.getElem?_eq_some_iff.1 hd).1
      exact ⟨us[i]'(by omega), by simp [Instr.extract, hv, show i < us.size by omega], h3 i d _ hd (by simp)⟩
    · trivial
  case makeInterface t x =>
    simp only []
    split
    · trivial
    · rename_i d hni hd
      have hr := hρ x
      have key : ∀ d', ρ x = d' → SatA P w Im φ σ (do pure (.value (← Instr.makeInterface t (ρc x)))) (.ok (.iface t d') σ) := fun d' hd' => by
        rw [hd'] at hr
        refine ⟨.iface t (ρc x), w, φ, .inl ?_, Good.refl hi (.iface t _ _ hr)⟩
        cases d <;> first | exact absurd rfl (hni _) | simp [Instr.makeInterface, run_underlying hd]
      split
      · trivial
      · trivial
      · exact key _ rfl
    · trivial
  case call c =>
    simp only []
    exact call_sat hi hρ c _
  all_goals trivial

end
end Go.RX
