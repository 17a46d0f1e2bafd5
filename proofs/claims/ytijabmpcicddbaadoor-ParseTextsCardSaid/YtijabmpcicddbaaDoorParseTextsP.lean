/- ParseTexts: both sides write any command alike. -/
import Derived.Test.YtijabmpcicddbaaDoorParseTextsL
set_option linter.unusedVariables false
set_option linter.unusedSimpArgs false
namespace Go.Proofs.YtijabmpcicddbaaDoor.ParseTexts
open Go.Ve
theorem cb {a_1 a_2 a_3 a_4 a_5 a_6 a_7 a_8 : Int} (h_3 : PvOk (.val (.int .i64 a_3))) (h_4 : PvOk (.val (.int .i64 a_4))) (h_5 : PvOk (.val (.int .i64 a_5))) (h_6 : PvOk (.val (.int .u8 a_6))) (h_7 : PvOk (.val (.int .u8 a_7))) (h_8 : PvOk (.val (.int .u64 a_8))) : CB ⟨a_1, a_2, a_3, a_4, a_5, a_6, a_7, a_8⟩ where
  p := okI_spec.2 (pv_i64 h_3)
  n := okI_spec.2 (pv_i64 h_4)
  v := okI_spec.2 (pv_i64 h_5)
  m0 := (pv_u8 h_6).1
  m1 := (pv_u8 h_6).2
  t0 := (pv_u8 h_7).1
  t1 := (pv_u8 h_7).2
  a0 := (pv_u64 h_8).1
theorem main {α : Type} (a_1 : Int) (a_2 : Int) (a_3 : Int) (a_4 : Int) (a_5 : Int) (a_6 : Int) (a_7 : Int) (a_8 : Int) (h_1 : PvOk (.val (.int .i64 a_1))) (h_2 : PvOk (.val (.int .i64 a_2))) (h_3 : PvOk (.val (.int .i64 a_3))) (h_4 : PvOk (.val (.int .i64 a_4))) (h_5 : PvOk (.val (.int .i64 a_5))) (h_6 : PvOk (.val (.int .u8 a_6))) (h_7 : PvOk (.val (.int .u8 a_7))) (h_8 : PvOk (.val (.int .u64 a_8))) (k0 k1 : Option α) : law22_ParseTexts a_1 a_2 a_3 a_4 a_5 a_6 a_7 a_8 k0 k1 = k0 := by
  have hc : CB ⟨a_1, a_2, a_3, a_4, a_5, a_6, a_7, a_8⟩ := cb h_3 h_4 h_5 h_6 h_7 h_8
  unfold law22_ParseTexts law22_ParseTexts_T
  refine (textP hc α _ _).trans ?_
  cases ht : textO ⟨a_1, a_2, a_3, a_4, a_5, a_6, a_7, a_8⟩ with
  | none => refine (textR hc α _ _).trans ?_; rw [ht]
  | some t =>
    refine (textR hc α _ _).trans ?_
    rw [ht]
    show (bif t.toList == t.toList then k0 else k1) = k0
    rw [beq_self_eq_true, cond_true]
end Go.Proofs.YtijabmpcicddbaaDoor.ParseTexts
