/- ParseLines: both sides take any line alike. -/
import Derived.Test.YtijabmpcicddbaaDoorParseLinesL
set_option linter.unusedVariables false
set_option linter.unusedSimpArgs false
namespace Go.Proofs.YtijabmpcicddbaaDoor.ParseLines
open Go.Ve
theorem eq_self (a b c d e f g h : Int) : e49 a a b b c c d d e e f f g g h h = true := by unfold e49; simp
theorem main {α : Type} (a_1 : ByteArray) (h_1 : PvOk (.val (.string a_1))) (k0 k1 : Option α) : law22_ParseLines a_1 k0 k1 = k0 := by
  unfold law22_ParseLines law22_ParseLines_T
  by_cases hs : (a_1.size : Int) > 2000
  · rw [dec_t hs, cond_true]
  rw [dec_f hs, cond_false]
  by_cases hl : 200 < a_1.size
  · rw [lineP_long _ hl, lineR_long _ hl]
  rw [lineP _ (by omega), lineR _ (by omega)]
  cases hf : find (WB a_1) with
  | none => rfl
  | some c =>
    show ref22_Line a_1 _ _ _ = k0
    rw [lineR _ (by omega), hf]
    show (bif e49 c.what c.what c.kind c.kind c.port c.port c.num c.num c.vlan c.vlan c.memb c.memb c.tagd c.tagd c.mac c.mac then k0 else k1) = k0
    rw [eq_self, cond_true]
end Go.Proofs.YtijabmpcicddbaaDoor.ParseLines
