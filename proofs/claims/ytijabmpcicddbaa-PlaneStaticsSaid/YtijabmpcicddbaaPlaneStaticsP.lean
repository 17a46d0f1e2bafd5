/- PlaneStatics: what the code comes to answers true. -/
import Derived.Test.YtijabmpcicddbaaPlaneStaticsU
set_option linter.unusedVariables false
set_option linter.unusedSimpArgs false
set_option maxHeartbeats 1000000
namespace Go.Proofs.Ytijabmpcicddbaa.PlaneStatics
open Go.Ve
theorem four {a : Int} (h0 : 0 ≤ a) (h1 : a ≤ 255) : ∃ r : Int, (IntKind.i64.wrap a).tmod 4 = r ∧ (IntKind.i64.wrap r).tmod 4 = r ∧ (r = 0 ∨ r = 1 ∨ r = 2 ∨ r = 3) := by
  have tm : ∀ x y : Int, 0 ≤ x → 0 < y → x.tmod y = x % y := fun x y hx hy => by rw [Int.tmod_eq_emod_of_nonneg hx]
  refine ⟨a % 4, ?_, ?_, by omega⟩
  · rw [i64_id (by omega) (by omega), tm _ _ h0 (by decide)]
  · rw [i64_id (by omega) (by omega), tm _ _ (by omega) (by decide)]; omega
theorem at_mod {α : Type} {a b c r s t : Int} (h1 : (IntKind.i64.wrap a).tmod 4 = r) (h1' : (IntKind.i64.wrap r).tmod 4 = r) (h2 : (IntKind.i64.wrap b).tmod 4 = s) (h2' : (IntKind.i64.wrap s).tmod 4 = s) (h3 : (IntKind.i64.wrap c).tmod 4 = t) (h3' : (IntKind.i64.wrap t).tmod 4 = t) (k0 k1 : Option α) : law20_PlaneStatics a b c k0 k1 = law20_PlaneStatics r s t k0 k1 := by
  have he : e6 a = e6 r := by unfold e6; rw [h1, h1']
  unfold law20_PlaneStatics law20_PlaneStatics_T
  rw [h1, h1', h2, h2', h3, h3', he]
theorem c_0_0_0 {α : Type} (k0 k1 : Option α) : law20_PlaneStatics 0 0 0 k0 k1 = k1 := by kernel_rfl
theorem c_0_0_1 {α : Type} (k0 k1 : Option α) : law20_PlaneStatics 0 0 1 k0 k1 = k1 := by kernel_rfl
theorem c_0_0_2 {α : Type} (k0 k1 : Option α) : law20_PlaneStatics 0 0 2 k0 k1 = k1 := by kernel_rfl
theorem c_0_0_3 {α : Type} (k0 k1 : Option α) : law20_PlaneStatics 0 0 3 k0 k1 = k1 := by kernel_rfl
theorem c_0_1_0 {α : Type} (k0 k1 : Option α) : law20_PlaneStatics 0 1 0 k0 k1 = k1 := by kernel_rfl
theorem c_0_1_1 {α : Type} (k0 k1 : Option α) : law20_PlaneStatics 0 1 1 k0 k1 = k1 := by kernel_rfl
theorem c_0_1_2 {α : Type} (k0 k1 : Option α) : law20_PlaneStatics 0 1 2 k0 k1 = k1 := by kernel_rfl
theorem c_0_1_3 {α : Type} (k0 k1 : Option α) : law20_PlaneStatics 0 1 3 k0 k1 = k1 := by kernel_rfl
theorem c_0_2_0 {α : Type} (k0 k1 : Option α) : law20_PlaneStatics 0 2 0 k0 k1 = k1 := by kernel_rfl
theorem c_0_2_1 {α : Type} (k0 k1 : Option α) : law20_PlaneStatics 0 2 1 k0 k1 = k1 := by kernel_rfl
theorem c_0_2_2 {α : Type} (k0 k1 : Option α) : law20_PlaneStatics 0 2 2 k0 k1 = k1 := by kernel_rfl
theorem c_0_2_3 {α : Type} (k0 k1 : Option α) : law20_PlaneStatics 0 2 3 k0 k1 = k1 := by kernel_rfl
theorem c_0_3_0 {α : Type} (k0 k1 : Option α) : law20_PlaneStatics 0 3 0 k0 k1 = k1 := by kernel_rfl
theorem c_0_3_1 {α : Type} (k0 k1 : Option α) : law20_PlaneStatics 0 3 1 k0 k1 = k1 := by kernel_rfl
theorem c_0_3_2 {α : Type} (k0 k1 : Option α) : law20_PlaneStatics 0 3 2 k0 k1 = k1 := by kernel_rfl
theorem c_0_3_3 {α : Type} (k0 k1 : Option α) : law20_PlaneStatics 0 3 3 k0 k1 = k1 := by kernel_rfl
theorem c_1_0_0 {α : Type} (k0 k1 : Option α) : law20_PlaneStatics 1 0 0 k0 k1 = k1 := by kernel_rfl
theorem c_1_0_1 {α : Type} (k0 k1 : Option α) : law20_PlaneStatics 1 0 1 k0 k1 = k1 := by kernel_rfl
theorem c_1_0_2 {α : Type} (k0 k1 : Option α) : law20_PlaneStatics 1 0 2 k0 k1 = k1 := by kernel_rfl
theorem c_1_0_3 {α : Type} (k0 k1 : Option α) : law20_PlaneStatics 1 0 3 k0 k1 = k1 := by kernel_rfl
theorem c_1_1_0 {α : Type} (k0 k1 : Option α) : law20_PlaneStatics 1 1 0 k0 k1 = k1 := by kernel_rfl
theorem c_1_1_1 {α : Type} (k0 k1 : Option α) : law20_PlaneStatics 1 1 1 k0 k1 = k1 := by kernel_rfl
theorem c_1_1_2 {α : Type} (k0 k1 : Option α) : law20_PlaneStatics 1 1 2 k0 k1 = k1 := by kernel_rfl
theorem c_1_1_3 {α : Type} (k0 k1 : Option α) : law20_PlaneStatics 1 1 3 k0 k1 = k1 := by kernel_rfl
theorem c_1_2_0 {α : Type} (k0 k1 : Option α) : law20_PlaneStatics 1 2 0 k0 k1 = k1 := by kernel_rfl
theorem c_1_2_1 {α : Type} (k0 k1 : Option α) : law20_PlaneStatics 1 2 1 k0 k1 = k1 := by kernel_rfl
theorem c_1_2_2 {α : Type} (k0 k1 : Option α) : law20_PlaneStatics 1 2 2 k0 k1 = k1 := by kernel_rfl
theorem c_1_2_3 {α : Type} (k0 k1 : Option α) : law20_PlaneStatics 1 2 3 k0 k1 = k1 := by kernel_rfl
theorem c_1_3_0 {α : Type} (k0 k1 : Option α) : law20_PlaneStatics 1 3 0 k0 k1 = k1 := by kernel_rfl
theorem c_1_3_1 {α : Type} (k0 k1 : Option α) : law20_PlaneStatics 1 3 1 k0 k1 = k1 := by kernel_rfl
theorem c_1_3_2 {α : Type} (k0 k1 : Option α) : law20_PlaneStatics 1 3 2 k0 k1 = k1 := by kernel_rfl
theorem c_1_3_3 {α : Type} (k0 k1 : Option α) : law20_PlaneStatics 1 3 3 k0 k1 = k1 := by kernel_rfl
theorem c_2_0_0 {α : Type} (k0 k1 : Option α) : law20_PlaneStatics 2 0 0 k0 k1 = k1 := by kernel_rfl
theorem c_2_0_1 {α : Type} (k0 k1 : Option α) : law20_PlaneStatics 2 0 1 k0 k1 = k1 := by kernel_rfl
theorem c_2_0_2 {α : Type} (k0 k1 : Option α) : law20_PlaneStatics 2 0 2 k0 k1 = k1 := by kernel_rfl
theorem c_2_0_3 {α : Type} (k0 k1 : Option α) : law20_PlaneStatics 2 0 3 k0 k1 = k1 := by kernel_rfl
theorem c_2_1_0 {α : Type} (k0 k1 : Option α) : law20_PlaneStatics 2 1 0 k0 k1 = k1 := by kernel_rfl
theorem c_2_1_1 {α : Type} (k0 k1 : Option α) : law20_PlaneStatics 2 1 1 k0 k1 = k1 := by kernel_rfl
theorem c_2_1_2 {α : Type} (k0 k1 : Option α) : law20_PlaneStatics 2 1 2 k0 k1 = k1 := by kernel_rfl
theorem c_2_1_3 {α : Type} (k0 k1 : Option α) : law20_PlaneStatics 2 1 3 k0 k1 = k1 := by kernel_rfl
theorem c_2_2_0 {α : Type} (k0 k1 : Option α) : law20_PlaneStatics 2 2 0 k0 k1 = k1 := by kernel_rfl
theorem c_2_2_1 {α : Type} (k0 k1 : Option α) : law20_PlaneStatics 2 2 1 k0 k1 = k1 := by kernel_rfl
theorem c_2_2_2 {α : Type} (k0 k1 : Option α) : law20_PlaneStatics 2 2 2 k0 k1 = k1 := by kernel_rfl
theorem c_2_2_3 {α : Type} (k0 k1 : Option α) : law20_PlaneStatics 2 2 3 k0 k1 = k1 := by kernel_rfl
theorem c_2_3_0 {α : Type} (k0 k1 : Option α) : law20_PlaneStatics 2 3 0 k0 k1 = k1 := by kernel_rfl
theorem c_2_3_1 {α : Type} (k0 k1 : Option α) : law20_PlaneStatics 2 3 1 k0 k1 = k1 := by kernel_rfl
theorem c_2_3_2 {α : Type} (k0 k1 : Option α) : law20_PlaneStatics 2 3 2 k0 k1 = k1 := by kernel_rfl
theorem c_2_3_3 {α : Type} (k0 k1 : Option α) : law20_PlaneStatics 2 3 3 k0 k1 = k1 := by kernel_rfl
theorem c_3_0_0 {α : Type} (k0 k1 : Option α) : law20_PlaneStatics 3 0 0 k0 k1 = k1 := by kernel_rfl
theorem c_3_0_1 {α : Type} (k0 k1 : Option α) : law20_PlaneStatics 3 0 1 k0 k1 = k1 := by kernel_rfl
theorem c_3_0_2 {α : Type} (k0 k1 : Option α) : law20_PlaneStatics 3 0 2 k0 k1 = k1 := by kernel_rfl
theorem c_3_0_3 {α : Type} (k0 k1 : Option α) : law20_PlaneStatics 3 0 3 k0 k1 = k1 := by kernel_rfl
theorem c_3_1_0 {α : Type} (k0 k1 : Option α) : law20_PlaneStatics 3 1 0 k0 k1 = k1 := by kernel_rfl
theorem c_3_1_1 {α : Type} (k0 k1 : Option α) : law20_PlaneStatics 3 1 1 k0 k1 = k1 := by kernel_rfl
theorem c_3_1_2 {α : Type} (k0 k1 : Option α) : law20_PlaneStatics 3 1 2 k0 k1 = k1 := by kernel_rfl
theorem c_3_1_3 {α : Type} (k0 k1 : Option α) : law20_PlaneStatics 3 1 3 k0 k1 = k1 := by kernel_rfl
theorem c_3_2_0 {α : Type} (k0 k1 : Option α) : law20_PlaneStatics 3 2 0 k0 k1 = k1 := by kernel_rfl
theorem c_3_2_1 {α : Type} (k0 k1 : Option α) : law20_PlaneStatics 3 2 1 k0 k1 = k1 := by kernel_rfl
theorem c_3_2_2 {α : Type} (k0 k1 : Option α) : law20_PlaneStatics 3 2 2 k0 k1 = k1 := by kernel_rfl
theorem c_3_2_3 {α : Type} (k0 k1 : Option α) : law20_PlaneStatics 3 2 3 k0 k1 = k1 := by kernel_rfl
theorem c_3_3_0 {α : Type} (k0 k1 : Option α) : law20_PlaneStatics 3 3 0 k0 k1 = k1 := by kernel_rfl
theorem c_3_3_1 {α : Type} (k0 k1 : Option α) : law20_PlaneStatics 3 3 1 k0 k1 = k1 := by kernel_rfl
theorem c_3_3_2 {α : Type} (k0 k1 : Option α) : law20_PlaneStatics 3 3 2 k0 k1 = k1 := by kernel_rfl
theorem c_3_3_3 {α : Type} (k0 k1 : Option α) : law20_PlaneStatics 3 3 3 k0 k1 = k1 := by kernel_rfl
theorem main {α : Type} (a_1 : Int) (a_2 : Int) (a_3 : Int) (h_1 : PvOk (.val (.int .u8 a_1))) (h_2 : PvOk (.val (.int .u8 a_2))) (h_3 : PvOk (.val (.int .u8 a_3))) (k0 k1 : Option α) : law20_PlaneStatics a_1 a_2 a_3 k0 k1 = k1 := by
  obtain ⟨r, h1, h1', q1⟩ := four (pv_u8 h_1).1 (pv_u8 h_1).2
  obtain ⟨s, h2, h2', q2⟩ := four (pv_u8 h_2).1 (pv_u8 h_2).2
  obtain ⟨t, h3, h3', q3⟩ := four (pv_u8 h_3).1 (pv_u8 h_3).2
  rw [at_mod h1 h1' h2 h2' h3 h3']
  clear h1 h1' h2 h2' h3 h3' h_1 h_2 h_3
  rcases q1 with rfl | rfl | rfl | rfl
  · rcases q2 with rfl | rfl | rfl | rfl
    · rcases q3 with rfl | rfl | rfl | rfl
      · exact c_0_0_0 k0 k1
      · exact c_0_0_1 k0 k1
      · exact c_0_0_2 k0 k1
      · exact c_0_0_3 k0 k1
    · rcases q3 with rfl | rfl | rfl | rfl
      · exact c_0_1_0 k0 k1
      · exact c_0_1_1 k0 k1
      · exact c_0_1_2 k0 k1
      · exact c_0_1_3 k0 k1
    · rcases q3 with rfl | rfl | rfl | rfl
      · exact c_0_2_0 k0 k1
      · exact c_0_2_1 k0 k1
      · exact c_0_2_2 k0 k1
      · exact c_0_2_3 k0 k1
    · rcases q3 with rfl | rfl | rfl | rfl
      · exact c_0_3_0 k0 k1
      · exact c_0_3_1 k0 k1
      · exact c_0_3_2 k0 k1
      · exact c_0_3_3 k0 k1
  · rcases q2 with rfl | rfl | rfl | rfl
    · rcases q3 with rfl | rfl | rfl | rfl
      · exact c_1_0_0 k0 k1
      · exact c_1_0_1 k0 k1
      · exact c_1_0_2 k0 k1
      · exact c_1_0_3 k0 k1
    · rcases q3 with rfl | rfl | rfl | rfl
      · exact c_1_1_0 k0 k1
      · exact c_1_1_1 k0 k1
      · exact c_1_1_2 k0 k1
      · exact c_1_1_3 k0 k1
    · rcases q3 with rfl | rfl | rfl | rfl
      · exact c_1_2_0 k0 k1
      · exact c_1_2_1 k0 k1
      · exact c_1_2_2 k0 k1
      · exact c_1_2_3 k0 k1
    · rcases q3 with rfl | rfl | rfl | rfl
      · exact c_1_3_0 k0 k1
      · exact c_1_3_1 k0 k1
      · exact c_1_3_2 k0 k1
      · exact c_1_3_3 k0 k1
  · rcases q2 with rfl | rfl | rfl | rfl
    · rcases q3 with rfl | rfl | rfl | rfl
      · exact c_2_0_0 k0 k1
      · exact c_2_0_1 k0 k1
      · exact c_2_0_2 k0 k1
      · exact c_2_0_3 k0 k1
    · rcases q3 with rfl | rfl | rfl | rfl
      · exact c_2_1_0 k0 k1
      · exact c_2_1_1 k0 k1
      · exact c_2_1_2 k0 k1
      · exact c_2_1_3 k0 k1
    · rcases q3 with rfl | rfl | rfl | rfl
      · exact c_2_2_0 k0 k1
      · exact c_2_2_1 k0 k1
      · exact c_2_2_2 k0 k1
      · exact c_2_2_3 k0 k1
    · rcases q3 with rfl | rfl | rfl | rfl
      · exact c_2_3_0 k0 k1
      · exact c_2_3_1 k0 k1
      · exact c_2_3_2 k0 k1
      · exact c_2_3_3 k0 k1
  · rcases q2 with rfl | rfl | rfl | rfl
    · rcases q3 with rfl | rfl | rfl | rfl
      · exact c_3_0_0 k0 k1
      · exact c_3_0_1 k0 k1
      · exact c_3_0_2 k0 k1
      · exact c_3_0_3 k0 k1
    · rcases q3 with rfl | rfl | rfl | rfl
      · exact c_3_1_0 k0 k1
      · exact c_3_1_1 k0 k1
      · exact c_3_1_2 k0 k1
      · exact c_3_1_3 k0 k1
    · rcases q3 with rfl | rfl | rfl | rfl
      · exact c_3_2_0 k0 k1
      · exact c_3_2_1 k0 k1
      · exact c_3_2_2 k0 k1
      · exact c_3_2_3 k0 k1
    · rcases q3 with rfl | rfl | rfl | rfl
      · exact c_3_3_0 k0 k1
      · exact c_3_3_1 k0 k1
      · exact c_3_3_2 k0 k1
      · exact c_3_3_3 k0 k1
end Go.Proofs.Ytijabmpcicddbaa.PlaneStatics
