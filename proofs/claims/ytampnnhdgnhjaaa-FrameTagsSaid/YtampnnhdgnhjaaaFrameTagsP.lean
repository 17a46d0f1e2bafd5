/- FrameTags: what the code comes to answers true: plain numbers and rows, no program in sight. -/
import Derived.Test.YtampnnhdgnhjaaaFrameTagsU
import Derived.Test.YtampnnhdgnhjaaaVe24
set_option linter.unusedVariables false
set_option linter.unusedSimpArgs false
namespace Go.Proofs.Ytampnnhdgnhjaaa.FrameTags
open Go.Ve
theorem main {α : Type} (a_1 : Int) (a_2 : Int) (a_3 : Bool) (a_4 : Int) (a_5 : Int) (a_6 : Int) (a_7 : Bool) (a_8 : Nat) (a_9 : Nat → Nat → PV) (a_10 : Int) (h_1 : PvOk (.val (.int .u64 a_1))) (h_2 : PvOk (.val (.int .u64 a_2))) (h_4 : PvOk (.val (.int .i64 a_4))) (h_5 : PvOk (.val (.int .i64 a_5))) (h_6 : PvOk (.val (.int .i64 a_6))) (h_7 : PvOk (.sl a_7 (.int .u8 .nil) 1 a_8 a_9)) (h_10 : PvOk (.val (.int .i64 a_10))) (k0 k1 : Option α) : law10_FrameTags a_1 a_2 a_3 a_4 a_5 a_6 a_7 a_8 a_9 a_10 k0 k1 = k0 := by
  unfold law10_FrameTags law10_FrameTags_T
  by_cases h : (a_8 : Int) > 2000
  · rw [dec_t h, cond_true]
  · have hb : Nat.ble (a_8 * 1) bound = true := ble_true (by unfold bound; omega)
    simp only [dec_f h, Nat.zero_add, catf_zero, hb, cond_true, cond_false]
    unfold frame_Tagged frame_Tagged_T ref10_Tagged ref10_Tagged_T
    have hv : decide (a_10 > 4094) = decide (a_10 ≥ 4095) := by
      by_cases h2 : a_10 > 4094
      · rw [dec_t h2, dec_t (show a_10 ≥ 4095 by omega)]
      · rw [dec_f h2, dec_f (show ¬ a_10 ≥ 4095 by omega)]
    simp only [hv, Nat.zero_add, catf_zero, hb, cond_true, cond_false]
    cases decide (a_10 < 1) <;> cases decide (a_10 ≥ 4095) <;> cases a_3 <;> simp only [cond_true, cond_false, Bool.not_true, Bool.not_false, keep_Frames, keep_Frames_T, keep_Frames_v8, keep_Frames_v8_T, beq_self_eq_true]
end Go.Proofs.Ytampnnhdgnhjaaa.FrameTags
