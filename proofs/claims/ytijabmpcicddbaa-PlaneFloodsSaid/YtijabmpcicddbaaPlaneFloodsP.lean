/- PlaneFloods: what the code comes to answers true. -/
import Derived.Test.YtijabmpcicddbaaPlaneFloodsU
set_option linter.unusedVariables false
set_option linter.unusedSimpArgs false
set_option maxHeartbeats 1000000
namespace Go.Proofs.Ytijabmpcicddbaa.PlaneFloods
open Go.Ve
theorem four {a : Int} (h0 : 0 ≤ a) (h1 : a ≤ 255) : ∃ r : Int, (IntKind.i64.wrap a).tmod 4 = r ∧ (IntKind.i64.wrap r).tmod 4 = r ∧ (r = 0 ∨ r = 1 ∨ r = 2 ∨ r = 3) := by
  have tm : ∀ x y : Int, 0 ≤ x → 0 < y → x.tmod y = x % y := fun x y hx hy => by rw [Int.tmod_eq_emod_of_nonneg hx]
  refine ⟨a % 4, ?_, ?_, by omega⟩
  · rw [i64_id (by omega) (by omega), tm _ _ h0 (by decide)]
  · rw [i64_id (by omega) (by omega), tm _ _ (by omega) (by decide)]; omega
theorem three {a : Int} (h0 : 0 ≤ a) (h1 : a ≤ 255) : ∃ r : Int, (IntKind.i64.wrap a).tmod 3 = r ∧ (IntKind.i64.wrap r).tmod 3 = r ∧ (r = 0 ∨ r = 1 ∨ r = 2) := by
  have tm : ∀ x y : Int, 0 ≤ x → 0 < y → x.tmod y = x % y := fun x y hx hy => by rw [Int.tmod_eq_emod_of_nonneg hx]
  refine ⟨a % 3, ?_, ?_, by omega⟩
  · rw [i64_id (by omega) (by omega), tm _ _ h0 (by decide)]
  · rw [i64_id (by omega) (by omega), tm _ _ (by omega) (by decide)]; omega
theorem at_mod {α : Type} {a b c d e f r s t u v w : Int} (h1 : (IntKind.i64.wrap a).tmod 4 = r) (h1' : (IntKind.i64.wrap r).tmod 4 = r) (h2 : (IntKind.i64.wrap b).tmod 3 = s) (h2' : (IntKind.i64.wrap s).tmod 3 = s) (h3 : (IntKind.i64.wrap c).tmod 3 = t) (h3' : (IntKind.i64.wrap t).tmod 3 = t) (h4 : (IntKind.i64.wrap d).tmod 3 = u) (h4' : (IntKind.i64.wrap u).tmod 3 = u) (h5 : (IntKind.i64.wrap e).tmod 3 = v) (h5' : (IntKind.i64.wrap v).tmod 3 = v) (h6 : (IntKind.i64.wrap f).tmod 4 = w) (h6' : (IntKind.i64.wrap w).tmod 4 = w) (k0 k1 : Option α) : law20_PlaneFloods a b c d e f k0 k1 = law20_PlaneFloods r s t u v w k0 k1 := by
  have he : e7 b c d e = e7 s t u v := by unfold e7 e6; rw [h2, h2', h3, h3', h4, h4', h5, h5']
  unfold law20_PlaneFloods law20_PlaneFloods_T
  rw [h1, h1', h6, h6', he]
theorem p00 {α : Type} {s t u v : Int} (q2 : s = 0 ∨ s = 1 ∨ s = 2) (q3 : t = 0 ∨ t = 1 ∨ t = 2) (q4 : u = 0 ∨ u = 1 ∨ u = 2) (q5 : v = 0 ∨ v = 1 ∨ v = 2) (k0 k1 : Option α) : law20_PlaneFloods 0 s t u v 0 k0 k1 = k1 := by
  rcases q2 with rfl | rfl | rfl <;> rcases q3 with rfl | rfl | rfl <;> rcases q4 with rfl | rfl | rfl <;> rcases q5 with rfl | rfl | rfl <;> kernel_rfl
theorem p01 {α : Type} {s t u v : Int} (q2 : s = 0 ∨ s = 1 ∨ s = 2) (q3 : t = 0 ∨ t = 1 ∨ t = 2) (q4 : u = 0 ∨ u = 1 ∨ u = 2) (q5 : v = 0 ∨ v = 1 ∨ v = 2) (k0 k1 : Option α) : law20_PlaneFloods 0 s t u v 1 k0 k1 = k1 := by
  rcases q2 with rfl | rfl | rfl <;> rcases q3 with rfl | rfl | rfl <;> rcases q4 with rfl | rfl | rfl <;> rcases q5 with rfl | rfl | rfl <;> kernel_rfl
theorem p02 {α : Type} {s t u v : Int} (q2 : s = 0 ∨ s = 1 ∨ s = 2) (q3 : t = 0 ∨ t = 1 ∨ t = 2) (q4 : u = 0 ∨ u = 1 ∨ u = 2) (q5 : v = 0 ∨ v = 1 ∨ v = 2) (k0 k1 : Option α) : law20_PlaneFloods 0 s t u v 2 k0 k1 = k1 := by
  rcases q2 with rfl | rfl | rfl <;> rcases q3 with rfl | rfl | rfl <;> rcases q4 with rfl | rfl | rfl <;> rcases q5 with rfl | rfl | rfl <;> kernel_rfl
theorem p03 {α : Type} {s t u v : Int} (q2 : s = 0 ∨ s = 1 ∨ s = 2) (q3 : t = 0 ∨ t = 1 ∨ t = 2) (q4 : u = 0 ∨ u = 1 ∨ u = 2) (q5 : v = 0 ∨ v = 1 ∨ v = 2) (k0 k1 : Option α) : law20_PlaneFloods 0 s t u v 3 k0 k1 = k1 := by
  rcases q2 with rfl | rfl | rfl <;> rcases q3 with rfl | rfl | rfl <;> rcases q4 with rfl | rfl | rfl <;> rcases q5 with rfl | rfl | rfl <;> kernel_rfl
theorem p10 {α : Type} {s t u v : Int} (q2 : s = 0 ∨ s = 1 ∨ s = 2) (q3 : t = 0 ∨ t = 1 ∨ t = 2) (q4 : u = 0 ∨ u = 1 ∨ u = 2) (q5 : v = 0 ∨ v = 1 ∨ v = 2) (k0 k1 : Option α) : law20_PlaneFloods 1 s t u v 0 k0 k1 = k1 := by
  rcases q2 with rfl | rfl | rfl <;> rcases q3 with rfl | rfl | rfl <;> rcases q4 with rfl | rfl | rfl <;> rcases q5 with rfl | rfl | rfl <;> kernel_rfl
theorem p11 {α : Type} {s t u v : Int} (q2 : s = 0 ∨ s = 1 ∨ s = 2) (q3 : t = 0 ∨ t = 1 ∨ t = 2) (q4 : u = 0 ∨ u = 1 ∨ u = 2) (q5 : v = 0 ∨ v = 1 ∨ v = 2) (k0 k1 : Option α) : law20_PlaneFloods 1 s t u v 1 k0 k1 = k1 := by
  rcases q2 with rfl | rfl | rfl <;> rcases q3 with rfl | rfl | rfl <;> rcases q4 with rfl | rfl | rfl <;> rcases q5 with rfl | rfl | rfl <;> kernel_rfl
theorem p12 {α : Type} {s t u v : Int} (q2 : s = 0 ∨ s = 1 ∨ s = 2) (q3 : t = 0 ∨ t = 1 ∨ t = 2) (q4 : u = 0 ∨ u = 1 ∨ u = 2) (q5 : v = 0 ∨ v = 1 ∨ v = 2) (k0 k1 : Option α) : law20_PlaneFloods 1 s t u v 2 k0 k1 = k1 := by
  rcases q2 with rfl | rfl | rfl <;> rcases q3 with rfl | rfl | rfl <;> rcases q4 with rfl | rfl | rfl <;> rcases q5 with rfl | rfl | rfl <;> kernel_rfl
theorem p13 {α : Type} {s t u v : Int} (q2 : s = 0 ∨ s = 1 ∨ s = 2) (q3 : t = 0 ∨ t = 1 ∨ t = 2) (q4 : u = 0 ∨ u = 1 ∨ u = 2) (q5 : v = 0 ∨ v = 1 ∨ v = 2) (k0 k1 : Option α) : law20_PlaneFloods 1 s t u v 3 k0 k1 = k1 := by
  rcases q2 with rfl | rfl | rfl <;> rcases q3 with rfl | rfl | rfl <;> rcases q4 with rfl | rfl | rfl <;> rcases q5 with rfl | rfl | rfl <;> kernel_rfl
theorem p20 {α : Type} {s t u v : Int} (q2 : s = 0 ∨ s = 1 ∨ s = 2) (q3 : t = 0 ∨ t = 1 ∨ t = 2) (q4 : u = 0 ∨ u = 1 ∨ u = 2) (q5 : v = 0 ∨ v = 1 ∨ v = 2) (k0 k1 : Option α) : law20_PlaneFloods 2 s t u v 0 k0 k1 = k1 := by
  rcases q2 with rfl | rfl | rfl <;> rcases q3 with rfl | rfl | rfl <;> rcases q4 with rfl | rfl | rfl <;> rcases q5 with rfl | rfl | rfl <;> kernel_rfl
theorem p21 {α : Type} {s t u v : Int} (q2 : s = 0 ∨ s = 1 ∨ s = 2) (q3 : t = 0 ∨ t = 1 ∨ t = 2) (q4 : u = 0 ∨ u = 1 ∨ u = 2) (q5 : v = 0 ∨ v = 1 ∨ v = 2) (k0 k1 : Option α) : law20_PlaneFloods 2 s t u v 1 k0 k1 = k1 := by
  rcases q2 with rfl | rfl | rfl <;> rcases q3 with rfl | rfl | rfl <;> rcases q4 with rfl | rfl | rfl <;> rcases q5 with rfl | rfl | rfl <;> kernel_rfl
theorem p22 {α : Type} {s t u v : Int} (q2 : s = 0 ∨ s = 1 ∨ s = 2) (q3 : t = 0 ∨ t = 1 ∨ t = 2) (q4 : u = 0 ∨ u = 1 ∨ u = 2) (q5 : v = 0 ∨ v = 1 ∨ v = 2) (k0 k1 : Option α) : law20_PlaneFloods 2 s t u v 2 k0 k1 = k1 := by
  rcases q2 with rfl | rfl | rfl <;> rcases q3 with rfl | rfl | rfl <;> rcases q4 with rfl | rfl | rfl <;> rcases q5 with rfl | rfl | rfl <;> kernel_rfl
theorem p23 {α : Type} {s t u v : Int} (q2 : s = 0 ∨ s = 1 ∨ s = 2) (q3 : t = 0 ∨ t = 1 ∨ t = 2) (q4 : u = 0 ∨ u = 1 ∨ u = 2) (q5 : v = 0 ∨ v = 1 ∨ v = 2) (k0 k1 : Option α) : law20_PlaneFloods 2 s t u v 3 k0 k1 = k1 := by
  rcases q2 with rfl | rfl | rfl <;> rcases q3 with rfl | rfl | rfl <;> rcases q4 with rfl | rfl | rfl <;> rcases q5 with rfl | rfl | rfl <;> kernel_rfl
theorem p30 {α : Type} {s t u v : Int} (q2 : s = 0 ∨ s = 1 ∨ s = 2) (q3 : t = 0 ∨ t = 1 ∨ t = 2) (q4 : u = 0 ∨ u = 1 ∨ u = 2) (q5 : v = 0 ∨ v = 1 ∨ v = 2) (k0 k1 : Option α) : law20_PlaneFloods 3 s t u v 0 k0 k1 = k1 := by
  rcases q2 with rfl | rfl | rfl <;> rcases q3 with rfl | rfl | rfl <;> rcases q4 with rfl | rfl | rfl <;> rcases q5 with rfl | rfl | rfl <;> kernel_rfl
theorem p31 {α : Type} {s t u v : Int} (q2 : s = 0 ∨ s = 1 ∨ s = 2) (q3 : t = 0 ∨ t = 1 ∨ t = 2) (q4 : u = 0 ∨ u = 1 ∨ u = 2) (q5 : v = 0 ∨ v = 1 ∨ v = 2) (k0 k1 : Option α) : law20_PlaneFloods 3 s t u v 1 k0 k1 = k1 := by
  rcases q2 with rfl | rfl | rfl <;> rcases q3 with rfl | rfl | rfl <;> rcases q4 with rfl | rfl | rfl <;> rcases q5 with rfl | rfl | rfl <;> kernel_rfl
theorem p32 {α : Type} {s t u v : Int} (q2 : s = 0 ∨ s = 1 ∨ s = 2) (q3 : t = 0 ∨ t = 1 ∨ t = 2) (q4 : u = 0 ∨ u = 1 ∨ u = 2) (q5 : v = 0 ∨ v = 1 ∨ v = 2) (k0 k1 : Option α) : law20_PlaneFloods 3 s t u v 2 k0 k1 = k1 := by
  rcases q2 with rfl | rfl | rfl <;> rcases q3 with rfl | rfl | rfl <;> rcases q4 with rfl | rfl | rfl <;> rcases q5 with rfl | rfl | rfl <;> kernel_rfl
theorem p33 {α : Type} {s t u v : Int} (q2 : s = 0 ∨ s = 1 ∨ s = 2) (q3 : t = 0 ∨ t = 1 ∨ t = 2) (q4 : u = 0 ∨ u = 1 ∨ u = 2) (q5 : v = 0 ∨ v = 1 ∨ v = 2) (k0 k1 : Option α) : law20_PlaneFloods 3 s t u v 3 k0 k1 = k1 := by
  rcases q2 with rfl | rfl | rfl <;> rcases q3 with rfl | rfl | rfl <;> rcases q4 with rfl | rfl | rfl <;> rcases q5 with rfl | rfl | rfl <;> kernel_rfl
theorem main {α : Type} (a_1 : Int) (a_2 : Int) (a_3 : Int) (a_4 : Int) (a_5 : Int) (a_6 : Int) (h_1 : PvOk (.val (.int .u8 a_1))) (h_2 : PvOk (.val (.int .u8 a_2))) (h_3 : PvOk (.val (.int .u8 a_3))) (h_4 : PvOk (.val (.int .u8 a_4))) (h_5 : PvOk (.val (.int .u8 a_5))) (h_6 : PvOk (.val (.int .u8 a_6))) (k0 k1 : Option α) : law20_PlaneFloods a_1 a_2 a_3 a_4 a_5 a_6 k0 k1 = k1 := by
  obtain ⟨r, h1, h1', q1⟩ := four (pv_u8 h_1).1 (pv_u8 h_1).2
  obtain ⟨s, h2, h2', q2⟩ := three (pv_u8 h_2).1 (pv_u8 h_2).2
  obtain ⟨t, h3, h3', q3⟩ := three (pv_u8 h_3).1 (pv_u8 h_3).2
  obtain ⟨u, h4, h4', q4⟩ := three (pv_u8 h_4).1 (pv_u8 h_4).2
  obtain ⟨v, h5, h5', q5⟩ := three (pv_u8 h_5).1 (pv_u8 h_5).2
  obtain ⟨w, h6, h6', q6⟩ := four (pv_u8 h_6).1 (pv_u8 h_6).2
  rw [at_mod h1 h1' h2 h2' h3 h3' h4 h4' h5 h5' h6 h6']
  clear h1 h1' h2 h2' h3 h3' h4 h4' h5 h5' h6 h6' h_1 h_2 h_3 h_4 h_5 h_6
  rcases q1 with rfl | rfl | rfl | rfl
  · rcases q6 with rfl | rfl | rfl | rfl
    · exact p00 q2 q3 q4 q5 k0 k1
    · exact p01 q2 q3 q4 q5 k0 k1
    · exact p02 q2 q3 q4 q5 k0 k1
    · exact p03 q2 q3 q4 q5 k0 k1
  · rcases q6 with rfl | rfl | rfl | rfl
    · exact p10 q2 q3 q4 q5 k0 k1
    · exact p11 q2 q3 q4 q5 k0 k1
    · exact p12 q2 q3 q4 q5 k0 k1
    · exact p13 q2 q3 q4 q5 k0 k1
  · rcases q6 with rfl | rfl | rfl | rfl
    · exact p20 q2 q3 q4 q5 k0 k1
    · exact p21 q2 q3 q4 q5 k0 k1
    · exact p22 q2 q3 q4 q5 k0 k1
    · exact p23 q2 q3 q4 q5 k0 k1
  · rcases q6 with rfl | rfl | rfl | rfl
    · exact p30 q2 q3 q4 q5 k0 k1
    · exact p31 q2 q3 q4 q5 k0 k1
    · exact p32 q2 q3 q4 q5 k0 k1
    · exact p33 q2 q3 q4 q5 k0 k1
end Go.Proofs.Ytijabmpcicddbaa.PlaneFloods
