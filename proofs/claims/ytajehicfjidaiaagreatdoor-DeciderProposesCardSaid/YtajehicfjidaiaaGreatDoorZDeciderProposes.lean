/-
  'DeciderProposesCardSaid' is proved: for every input the law returns true, and each argument reads as it read before. No condition.
-/
import Derived.Test.YtajehicfjidaiaaGreatDoorRows
import Derived.Test.YtajehicfjidaiaaGreatDoorDeciderProposesX10
import Derived.ChangeCalls
import Derived.Test.YtajehicfjidaiaaGreatDoorTie
import Derived.Test.YtajehicfjidaiaaGreatDoorCards
import Derived.SevenTiedAt
import Derived.LaidMore
import Derived.LaidHandle
import Derived.LaidOnce
set_option linter.unusedVariables false
set_option maxRecDepth 100000
namespace Go.Proofs.YtajehicfjidaiaaGreatDoor.deciderProposes
open Go.ChangeShapes Go.WideShapes Go.ChangeAt Go.RowKit Go.RX
theorem own : ownKnob Tryz.prog.godebug = none := by kernel_rfl
theorem laidOut : laidOutB L.E.P = true := by kernel_rfl
theorem lens : Tryz.f6.params.toList.length = 2 := by kernel_rfl
theorem glok {W : World} (h : laidMetH Tryz.prog Rows.deciderProposesRow.laid W) : GlOk L.E W (Old W) := by
  rw [MakeChecks.laidMetH_plain _ _ _ (by kernel_rfl)] at h
  intro g
  by_cases e0 : g = 2
  · subst e0
    exact laid_ints (k := .u32) (ns := L.gl_four) (name := "locum/crc.four") (t := 211) (e := 200) (len := 16) h (show _ ∈ Rows.deciderProposesRow.laid by unfold Rows.deciderProposesRow; simp [Rows.laid_locum_crc_four, L.gl_four]) (by kernel_rfl) (by kernel_rfl) (by kernel_rfl) (by kernel_rfl) (by kernel_rfl)
  by_cases e1 : g = 1
  · subst e1
    exact laid_ints (k := .u8) (ns := L.gl_deBruijn64tab) (name := "math/bits.deBruijn64tab") (t := 209) (e := 5) (len := 64) h (show _ ∈ Rows.deciderProposesRow.laid by unfold Rows.deciderProposesRow; simp [Rows.laid_math_bits_deBruijn64tab, L.gl_deBruijn64tab]) (by kernel_rfl) (by kernel_rfl) (by kernel_rfl) (by kernel_rfl) (by kernel_rfl)
  by_cases e2 : g = 0
  · subst e2
    exact laid_ints (k := .i64) (ns := L.gl_parts) (name := "locum/decay.parts") (t := 202) (e := 3) (len := 16) h (show _ ∈ Rows.deciderProposesRow.laid by unfold Rows.deciderProposesRow; simp [Rows.laid_locum_decay_parts, L.gl_parts]) (by kernel_rfl) (by kernel_rfl) (by kernel_rfl) (by kernel_rfl) (by kernel_rfl)
  have e : L.E.gl g = .undef := by simp [L.E, beq_eq_false_iff_ne.2 e0, beq_eq_false_iff_ne.2 e1, beq_eq_false_iff_ne.2 e2]
  rw [e]; exact .undef _
theorem door_met (os : Os) (args : Array Value) : laidMetH Tryz.prog Rows.deciderProposesRow.laid ((World.doorLaid Tryz.prog 400 os).forCall (fun _ _ => 0) ⟨#[], args, []⟩).memory :=
  laidMetH_of_parts3 (fuel := 8) (laidMet_of_run' 8 (by kernel_rfl) (by kernel_rfl)) (by kernel_rfl) (by kernel_rfl)
theorem lifted (os : Os) (started : os.Started) (H : Type) (enc : TypeId × Value → H) :
    ReturnsInHanded {} Tryz.checked os 6 .any (fun w args => (Rows.deciderProposesSpec.pre enc Tryz.prog Tryz.f6 [] false w args ∧ laidMetH Tryz.prog Rows.deciderProposesRow.laid w) ∧ sizedMet enc Tryz.prog Tryz.f6 (OpenSpec.ofChange Rows.deciderProposesSpec) false w args)
      (Rows.deciderProposesSpec.post enc Tryz.prog Tryz.f6 false true false false) := by
  refine returnsInHanded_of_change_and (C := Tryz.checked) (X := fun w _ => laidMetH Tryz.prog Rows.deciderProposesRow.laid w) (fun _ _ _ hh h => h.of_heap hh) own started (by kernel_rfl) Tryz.func6
    (ChangeSpec.witness_shaped (enc := enc) (C := Tryz.checked) (os := os) (X := fun w _ => laidMetH Tryz.prog Rows.deciderProposesRow.laid w) false (World.doorLaid Tryz.prog 400 os) #[.agg #[.int .i64 0, .int .i64 0, .int .i64 0, .int .i64 0, .int .i64 0, .slice none 0 0, .int .i64 0, .int .i64 0, .int .i64 0, .int .i64 0, .int .i64 0, .int .i64 0, .int .i64 0, .int .i64 0, .int .i64 0, .int .i64 0, .int .i64 0, .int .i64 0, .int .i64 0, .int .i64 0, .int .i64 0, .int .i64 0, .int .i64 0, .int .i64 0, .int .i64 0, .int .i64 0, .int .i64 0, .int .i64 0, .int .i64 0, .int .i64 0], .slice none 0 0] 8 rfl (World.shaped_of_RefB (by kernel_rfl) (by kernel_rfl)) (by kernel_rfl) (by kernel_rfl) (by kernel_rfl) (door_met os _)) ?_
  intro W base args ds gs before hval hW hcnd hsz0 hL _
  have hW' := hW
  obtain ⟨p, q, hA, hV, rfl, hfz, hnd⟩ := hW
  obtain ⟨rfl, rfl⟩ := trodVars_none hV
  have hsz : (DataW.weightsEach L.E.P Tryz.f6.params.toList ds).all (· ≤ reachBytes) = true := by
    have e1 : Rows.deciderProposesSpec.plain.varTypes Tryz.checked.prog = [] := by kernel_rfl
    rw [e1, List.append_nil, List.append_nil] at hsz0
    exact hsz0
  have hok : ∀ (j : Nat) t v, Tryz.f6.params.toList[j]? = some t → args.toList[j]? = some v → Value.okWide L.E.P W .any base t v := fun j t v a b => hval j t v (by simpa using a) (by simpa using b)
  obtain ⟨hl1, hl2⟩ := trodAll_length hA
  rw [lens] at hl2
  have key := law_calls (E := L.E) (f := 6) (ts := Tryz.f6.params.toList) (glok hL) laidOut (by kernel_rfl) (by kernel_rfl) hok hA hsz (L.law24_DeciderProposes_sound L.deciderProposes)
  match ds, hl2 with
  | [d0, d1], _ =>
    refine key.mono fun e W' ⟨he, bel, hA'⟩ => ?_
    subst he
    exact ⟨_, rfl, _, _, _, [], _, [], hW', trodAll_mk1 (shut_bool (show Tryz.checked.prog.underlying 4 = some .bool by kernel_rfl) _), hA', rfl, bel.frame _, fun h => by cases h⟩
theorem over : Rows.deciderProposesRow.holds Tryz.pinned (OpenSpec.ofChange Rows.deciderProposesSpec) :=
  OpenClaim.holds_of_wide 6 Tryz.f6 rfl rfl rfl rfl rfl rfl rfl ⟨rfl, rfl, rfl, rfl, rfl⟩ rfl rfl rfl rfl rfl (by kernel_rfl) Tryz.func6 (by kernel_rfl)
    (of_decide_eq_true (by kernel_rfl)) (by unfold Func.isWrapper; first | (rw [if_pos (by decide +kernel)]; kernel_rfl) | (rw [if_neg (by decide +kernel)]; exact ⟨rfl, rfl⟩))
    (fun os started H enc _ => lifted os started H enc)
theorem pts : Tryz.f6.params.toList = [24, 25] := by kernel_rfl
theorem card : Rows.DeciderProposesCardSaid :=
  Claim7.holds_tied_plain_at .later [] [.data, .data, .data] true (true, "e2ed939a75d1f644c2777f9b7915ebcae11448914a468b153afa5c2eae8f1bf4") false
    over (fun _ h => by cases h) (by kernel_rfl) (fun _ h => by cases h) deciderProposes_row_tie rfl ⟨rfl, rfl⟩ (by kernel_rfl) rfl
    (fun f fn hf hfn => by
      obtain rfl : f = 6 := Option.some.inj ((show Tryz.prog.funcNamed "locum/locumlaw24.DeciderProposes" = some 6 by kernel_rfl).symm.trans hf) |>.symm
      obtain rfl : fn = Tryz.f6 := (Option.some.inj (Tryz.func6.symm.trans hfn)).symm
      exact ⟨by kernel_rfl, fun j t ht => by
        have hm : t ∈ [24, 25] := by rw [← pts]; exact Array.mem_toList_iff.2 (Array.mem_of_getElem? ht)
        have hall : ([24, 25].all fun u => !Tryz.prog.wantsStandIn u) = true := by kernel_rfl
        exact (show Tryz.prog.wantsStandIn t = false by simpa using List.all_eq_true.1 hall t hm)⟩)
    (by kernel_rfl)
end Go.Proofs.YtajehicfjidaiaaGreatDoor.deciderProposes
namespace Go.Proofs.YtajehicfjidaiaaGreatDoor
/-- The row, under a short name, for the claim. -/
theorem deciderProposes_holds : Rows.DeciderProposesCardSaid := deciderProposes.card
end Go.Proofs.YtajehicfjidaiaaGreatDoor
