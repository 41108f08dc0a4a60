/-
  'PlanPercentSaid' is proved: for every input the law returns true, and each argument reads as it read before. No condition.
-/
import Derived.Test.YtnaainilkgnkpaaRows
import Derived.Test.YtnaainilkgnkpaaPlanPercentY8
import Derived.ChangeCalls
set_option linter.unusedVariables false
set_option maxRecDepth 100000
namespace Go.Proofs.Ytnaainilkgnkpaa.planPercent
open Go.ChangeShapes Go.WideShapes Go.ChangeAt Go.RowKit Go.RX
theorem own : ownKnob Try.prog.godebug = none := by kernel_rfl
theorem laidOut : laidOutB L.E.P = true := by kernel_rfl
theorem lens : Try.f9.params.toList.length = 4 := by kernel_rfl
theorem lifted (os : Os) (started : os.Started) (H : Type) (enc : TypeId × Value → H) :
    ReturnsInHanded {} Try.checked os 9 .any (Rows.planPercentSpec.pre6 enc Try.prog Try.f9 Rows.planPercentRow.domain false) (Rows.planPercentSpec.post enc Try.prog Try.f9 false true false false) := by
  refine returnsInHanded_of_change_sized (C := Try.checked) own started (by kernel_rfl) Try.func9
    (ChangeSpec.witness6 (enc := enc) (C := Try.checked) false ⟨#[], #[.int .u8 0, .int .u8 0, .int .u8 0, .int .u8 0], []⟩ 8 (by kernel_rfl) (by kernel_rfl) (by kernel_rfl) (by kernel_rfl)) ?_
  intro W base args ds gs before hval hW hcnd hsz0 _
  have hW' := hW
  obtain ⟨p, q, hA, hV, rfl, hfz, hnd⟩ := hW
  obtain ⟨rfl, rfl⟩ := trodVars_none hV
  have hsz : (DataW.weightsEach L.E.P Try.f9.params.toList ds).all (· ≤ reachBytes) = true := by
    have e1 : Rows.planPercentSpec.plain.varTypes Try.checked.prog = [] := by kernel_rfl
    rw [e1, List.append_nil, List.append_nil] at hsz0
    exact hsz0
  have hok : ∀ (j : Nat) t v, Try.f9.params.toList[j]? = some t → args.toList[j]? = some v → Value.okWide L.E.P W .any base t v := fun j t v a b => hval j t v (by simpa using a) (by simpa using b)
  obtain ⟨hl1, hl2⟩ := trodAll_length hA
  rw [lens] at hl2
  have key := law_calls (E := L.E) (f := 9) (ts := Try.f9.params.toList) laidOut (by kernel_rfl) (by kernel_rfl) hok hA hsz (L.law04_PlanPercent_sound L.planPercent)
  match ds, hl2 with
  | [d0, d1, d2, d3], _ =>
    refine key.mono fun e W' ⟨he, bel, hA'⟩ => ?_
    subst he
    exact ⟨_, rfl, _, _, _, [], _, [], hW', trodAll_mk1 (shut_bool (show Try.checked.prog.underlying 4 = some .bool by kernel_rfl) _), hA', rfl, bel.frame _, fun h => by cases h⟩
theorem over : Rows.planPercentRow.holds Try.pinned (OpenSpec.ofChange Rows.planPercentSpec) :=
  OpenClaim.holds_of_wide 9 Try.f9 rfl rfl rfl rfl rfl rfl rfl ⟨rfl, rfl, rfl, rfl, rfl⟩ rfl rfl rfl rfl rfl (by kernel_rfl) Try.func9 (by kernel_rfl)
    (of_decide_eq_true (by kernel_rfl)) (by unfold Func.isWrapper; first | (rw [if_pos (by decide +kernel)]; kernel_rfl) | (rw [if_neg (by decide +kernel)]; exact ⟨rfl, rfl⟩))
    (fun os started H enc _ => lifted os started H enc)
end Go.Proofs.Ytnaainilkgnkpaa.planPercent
namespace Go.Proofs.Ytnaainilkgnkpaa
/-- The row, under a short name, for the claim. -/
theorem planPercent_holds : Rows.PlanPercentSaid := planPercent.over
end Go.Proofs.Ytnaainilkgnkpaa
