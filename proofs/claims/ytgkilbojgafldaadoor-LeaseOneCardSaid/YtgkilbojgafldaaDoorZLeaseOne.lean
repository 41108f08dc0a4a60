/-
  'LeaseOneCardSaid' is proved: for every input the law returns true, and each argument reads as it read before. No condition.
-/
import Derived.Test.YtgkilbojgafldaaDoorRows
import Derived.Test.YtgkilbojgafldaaDoorLeaseOneX8
import Derived.ChangeCalls
import Derived.Test.YtgkilbojgafldaaDoorTie
import Derived.Test.YtgkilbojgafldaaDoorCards
import Derived.SevenTiedAt
import Derived.LaidMore
import Derived.LaidHandle
import Derived.LaidOnce
set_option linter.unusedVariables false
set_option maxRecDepth 100000
namespace Go.Proofs.YtgkilbojgafldaaDoor.leaseOne
open Go.ChangeShapes Go.WideShapes Go.ChangeAt Go.RowKit Go.RX
theorem own : ownKnob Tryd.prog.godebug = none := by kernel_rfl
theorem laidOut : laidOutB L.E.P = true := by kernel_rfl
theorem lens : Tryd.f3.params.toList.length = 1 := by kernel_rfl
theorem glok {W : World} (h : laidMetH Tryd.prog Rows.leaseOneRow.laid W) : GlOk L.E W (Old W) := by
  rw [MakeChecks.laidMetH_plain _ _ _ (by kernel_rfl)] at h
  intro g
  by_cases e0 : g = 0
  · subst e0
    exact laid_ints (k := .u32) (ns := L.gl_four) (name := "locum/crc.four") (t := 150) (e := 137) (len := 16) h (show _ ∈ Rows.leaseOneRow.laid by unfold Rows.leaseOneRow; simp [Rows.laid_locum_crc_four, L.gl_four]) (by kernel_rfl) (by kernel_rfl) (by kernel_rfl) (by kernel_rfl) (by kernel_rfl)
  have e : L.E.gl g = .undef := by simp [L.E, beq_eq_false_iff_ne.2 e0]
  rw [e]; exact .undef _
theorem door_met (os : Os) (args : Array Value) : laidMetH Tryd.prog Rows.leaseOneRow.laid ((World.doorLaid Tryd.prog 400 os).forCall (fun _ _ => 0) ⟨#[], args, []⟩).memory :=
  laidMetH_of_parts3 (fuel := 8) (laidMet_of_run' 8 (by kernel_rfl) (by kernel_rfl)) (by kernel_rfl) (by kernel_rfl)
theorem lifted (os : Os) (started : os.Started) (H : Type) (enc : TypeId × Value → H) :
    ReturnsInHanded {} Tryd.checked os 3 .any (fun w args => (Rows.leaseOneSpec.pre enc Tryd.prog Tryd.f3 [] false w args ∧ laidMetH Tryd.prog Rows.leaseOneRow.laid w) ∧ sizedMet enc Tryd.prog Tryd.f3 (OpenSpec.ofChange Rows.leaseOneSpec) false w args)
      (Rows.leaseOneSpec.post enc Tryd.prog Tryd.f3 false true false false) := by
  refine returnsInHanded_of_change_and (C := Tryd.checked) (X := fun w _ => laidMetH Tryd.prog Rows.leaseOneRow.laid w) (fun _ _ _ hh h => h.of_heap hh) own started (by kernel_rfl) Tryd.func3
    (ChangeSpec.witness_shaped (enc := enc) (C := Tryd.checked) (os := os) (X := fun w _ => laidMetH Tryd.prog Rows.leaseOneRow.laid w) false (World.doorLaid Tryd.prog 400 os) #[.slice none 0 0] 8 rfl (World.shaped_of_RefB (by kernel_rfl) (by kernel_rfl)) (by kernel_rfl) (by kernel_rfl) (by kernel_rfl) (door_met os _)) ?_
  intro W base args ds gs before hval hW hcnd hsz0 hL _
  have hW' := hW
  obtain ⟨p, q, hA, hV, rfl, hfz, hnd⟩ := hW
  obtain ⟨rfl, rfl⟩ := trodVars_none hV
  have hsz : (DataW.weightsEach L.E.P Tryd.f3.params.toList ds).all (· ≤ reachBytes) = true := by
    have e1 : Rows.leaseOneSpec.plain.varTypes Tryd.checked.prog = [] := by kernel_rfl
    rw [e1, List.append_nil, List.append_nil] at hsz0
    exact hsz0
  have hok : ∀ (j : Nat) t v, Tryd.f3.params.toList[j]? = some t → args.toList[j]? = some v → Value.okWide L.E.P W .any base t v := fun j t v a b => hval j t v (by simpa using a) (by simpa using b)
  obtain ⟨hl1, hl2⟩ := trodAll_length hA
  rw [lens] at hl2
  have key := law_calls (E := L.E) (f := 3) (ts := Tryd.f3.params.toList) (glok hL) laidOut (by kernel_rfl) (by kernel_rfl) hok hA hsz (L.law17_LeaseOne_sound L.leaseOne)
  match ds, hl2 with
  | [d0], _ =>
    refine key.mono fun e W' ⟨he, bel, hA'⟩ => ?_
    subst he
    exact ⟨_, rfl, _, _, _, [], _, [], hW', trodAll_mk1 (shut_bool (show Tryd.checked.prog.underlying 4 = some .bool by kernel_rfl) _), hA', rfl, bel.frame _, fun h => by cases h⟩
theorem over : Rows.leaseOneRow.holds Tryd.pinned (OpenSpec.ofChange Rows.leaseOneSpec) :=
  OpenClaim.holds_of_wide 3 Tryd.f3 rfl rfl rfl rfl rfl rfl rfl ⟨rfl, rfl, rfl, rfl, rfl⟩ rfl rfl rfl rfl rfl (by kernel_rfl) Tryd.func3 (by kernel_rfl)
    (of_decide_eq_true (by kernel_rfl)) (by unfold Func.isWrapper; first | (rw [if_pos (by decide +kernel)]; kernel_rfl) | (rw [if_neg (by decide +kernel)]; exact ⟨rfl, rfl⟩))
    (fun os started H enc _ => lifted os started H enc)
theorem pts : Tryd.f3.params.toList = [22] := by kernel_rfl
theorem card : Rows.LeaseOneCardSaid :=
  Claim7.holds_tied_plain_at .later [] [.data] true (true, "38d050345a132010d6386bdf4880c46de6b78d78a6fb9a8b3c278c961577f4f0") false
    over (fun _ h => by cases h) (by kernel_rfl) (fun _ h => by cases h) leaseOne_row_tie rfl ⟨rfl, rfl⟩ (by kernel_rfl) rfl
    (fun f fn hf hfn => by
      obtain rfl : f = 3 := Option.some.inj ((show Tryd.prog.funcNamed "locum/locumlaw17.LeaseOne" = some 3 by kernel_rfl).symm.trans hf) |>.symm
      obtain rfl : fn = Tryd.f3 := (Option.some.inj (Tryd.func3.symm.trans hfn)).symm
      exact ⟨by kernel_rfl, fun j t ht => by
        have hm : t ∈ [22] := by rw [← pts]; exact Array.mem_toList_iff.2 (Array.mem_of_getElem? ht)
        have hall : ([22].all fun u => !Tryd.prog.wantsStandIn u) = true := by kernel_rfl
        exact (show Tryd.prog.wantsStandIn t = false by simpa using List.all_eq_true.1 hall t hm)⟩)
    (by kernel_rfl)
end Go.Proofs.YtgkilbojgafldaaDoor.leaseOne
namespace Go.Proofs.YtgkilbojgafldaaDoor
/-- The row, under a short name, for the claim. -/
theorem leaseOne_holds : Rows.LeaseOneCardSaid := leaseOne.card
end Go.Proofs.YtgkilbojgafldaaDoor
