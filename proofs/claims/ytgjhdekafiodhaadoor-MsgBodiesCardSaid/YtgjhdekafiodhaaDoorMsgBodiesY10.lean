/-
  Words and walks for MsgBodies. No condition.
-/
import Derived.Test.YtgjhdekafiodhaaDoorMsgBodiesY9
set_option linter.unusedSimpArgs false
set_option linter.unusedVariables false
set_option maxRecDepth 100000
namespace Go.RX.L
open Go Go.RX

theorem msgBodies : ∀ (m : Msg) (other : Int), m.Ok → inK .u8 other → law05_MsgBodies m other = some true := by
  intro m k hm h
  have hf := hm.fine
  have hk := inU8.1 h
  simp only [law05_MsgBodies, head_ok, body_ok hf, Option.bind_some]
  by_cases r : rightM m = true
  · have e : bodyM m = (m.Kind, encB m, 0) := by rw [bodyM, if_pos r]
    have hl := encB_len hf r
    have lm : (encB m).length ≤ memB := by simp only [memB]; omega
    have s := rmsame_ok hf hf hm.idl
    rw [sameM_self] at s
    have o := of_ok (kind_in r) (encB_bytes hf) lm
    rw [ofM_enc hf r] at o
    have o2 := of_ok hk (encB_bytes hf) lm
    simp only [e, o, o2, s, Option.bind_some, bne_self_eq_false, cond_false, cond_true, beq_self_eq_true]
    by_cases q : k = m.Kind
    · rw [beq_iff_eq.2 q]; rfl
    · rw [beq_eq_false_iff_ne.2 q, cond_false]
      rcases ofM_snd k (encB m) with h2 | h2
      · have ff := ofM_fine (k := k) (encB_bytes hf)
        have hd := ofM_dec (k := k) (encB_bytes hf) (m := (ofM k (encB m)).1) (by rw [← h2])
        have s3 := rmsame_ok ff hf (ofM_id (encB_bytes hf))
        have ne : sameM (ofM k (encB m)).1 m = false := by
          rw [Bool.eq_false_iff]
          intro hq
          have := sameM_iff.1 hq
          have h4 := hd.2.2.2
          rw [this] at h4
          exact q h4.symm
        rw [ne] at s3
        simp only [h2, bne_self_eq_false, cond_false, s3, Option.bind_some, Bool.not_false, cond_true, hd.2.2.2, wI64 (n := k) (by omega) (by omega), beq_self_eq_true]
      · rw [h2]; rfl
  · have e : bodyM m = (0, [], 51) := by rw [bodyM, if_neg r]
    rw [e]; rfl

end Go.RX.L
