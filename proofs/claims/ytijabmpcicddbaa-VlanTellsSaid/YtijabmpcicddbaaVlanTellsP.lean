/- VlanTells: what the code comes to answers true. -/
import Derived.Test.YtijabmpcicddbaaVlanL3
set_option linter.unusedVariables false
set_option linter.unusedSimpArgs false
set_option maxHeartbeats 1000000
namespace Go.Proofs.Ytijabmpcicddbaa.VlanTells
open Go.Ve
theorem mem_same {pn vn : Nat} (hp : pn ≤ 1000000) (hv : vn ≤ 1000000) (b1 b2 b3 : Int) (pnl : Bool) (pf : Nat → Nat → PV) (vnl : Bool) (vf : Nat → Nat → PV) (qnl : Bool) (qn : Nat) (qf : Nat → Nat → PV) (v : Int) {α : Type} (k1 X : Option α) :
    vlan_members b1 b2 b3 pnl pn pf vnl vn vf qnl qn qf v (fun r => bif Nat.ble r.length 1000000 then
      ref05_Vlan b1 b2 b3 pnl pn pf vnl vn vf qnl qn qf v (fun r' => ref19_Members_L0 r' b1 b2 b3 pnl pn pf vnl vn vf qnl qn qf (fun _ _ => .val undef)
        (fun s1 s2 s3 => keep_Ints (Nat.beq r.length 0) r.length (memRow r) s1 s2 s3 (fun _ _ _ _ _ _ => k1) (fun _ _ _ _ _ _ => X))) else none) = X := by
  rw [members_eq hp hv]
  obtain ⟨hN, hl⟩ := memRow_eq vf vn pn v
  rw [ble_true (show (memL vf vn pn v).length ≤ 1000000 by omega), cond_true]
  obtain ⟨nl', n', f', hN', h⟩ := rmem_eq hp hv b1 b2 b3 pnl pf vnl vf qnl qn qf v
  rw [h]
  exact ints_eq hN hN' (by have := hN.1; omega) _ _ _ _
theorem main {α : Type} (a_1 : Int) (a_2 : Int) (a_3 : Int) (a_4 : Bool) (a_5 : Nat) (a_6 : Nat → Nat → PV) (a_7 : Bool) (a_8 : Nat) (a_9 : Nat → Nat → PV) (a_10 : Bool) (a_11 : Nat) (a_12 : Nat → Nat → PV) (a_13 : Int) (a_14 : Int) (a_15 : Int) (a_16 : Int) (a_17 : Bool) (a_18 : Int) (a_19 : Int) (a_20 : Int) (a_21 : Bool) (a_22 : Nat) (a_23 : Nat → Nat → PV) (h_1 : PvOk (.val (.int .i64 a_1))) (h_2 : PvOk (.val (.int .i64 a_2))) (h_3 : PvOk (.val (.int .i64 a_3))) (h_4 : PvOk (.sl a_4 (.bool (.int .u32 (.int .i64 .nil))) 3 a_5 a_6)) (k_4 : RowK (.bool (.int .u32 (.int .i64 .nil))) a_5 a_6) (h_7 : PvOk (.sl a_7 (.int .i64 (.int .u8 (.int .u8 .nil))) 3 a_8 a_9)) (k_7 : RowK (.int .i64 (.int .u8 (.int .u8 .nil))) a_8 a_9) (h_10 : PvOk (.sl a_10 (.int .u64 (.int .i64 (.int .i64 .nil))) 3 a_11 a_12)) (k_10 : RowK (.int .u64 (.int .i64 (.int .i64 .nil))) a_11 a_12) (h_13 : PvOk (.val (.int .i64 a_13))) (h_14 : PvOk (.val (.int .i64 a_14))) (h_15 : PvOk (.val (.int .u64 a_15))) (h_16 : PvOk (.val (.int .u64 a_16))) (h_18 : PvOk (.val (.int .i64 a_18))) (h_19 : PvOk (.val (.int .i64 a_19))) (h_20 : PvOk (.val (.int .i64 a_20))) (h_21 : PvOk (.sl a_21 (.int .u8 .nil) 1 a_22 a_23)) (k_21 : RowK (.int .u8 .nil) a_22 a_23) (k0 k1 : Option α) : law19_VlanTells a_1 a_2 a_3 a_4 a_5 a_6 a_7 a_8 a_9 a_10 a_11 a_12 a_13 a_14 a_15 a_16 a_17 a_18 a_19 a_20 a_21 a_22 a_23 k0 k1 = k0 := by
  unfold law19_VlanTells law19_VlanTells_T law05_Fair law05_Fair_T
  by_cases s1 : (a_5 : Int) ≤ 20
  rotate_left
  · rw [dec_f s1]; rfl
  by_cases s2 : (a_8 : Int) ≤ 40
  rotate_left
  · rw [dec_t s1, dec_f s2]; rfl
  by_cases s3 : (a_11 : Int) ≤ 40
  rotate_left
  · rw [dec_t s1, dec_t s2, dec_f s3]; rfl
  by_cases s4 : (a_22 : Int) > 2000
  · rw [dec_t s1, dec_t s2, dec_t s3, dec_t s4]; rfl
  rw [dec_t s1, cond_true, dec_t s2, cond_true, dec_t s3]
  dsimp only
  rw [Bool.not_true, cond_false, dec_f s4, cond_false]
  have hp : a_5 ≤ 1000000 := by omega
  have hv : a_8 ≤ 1000000 := by omega
  have hb : a_22 ≤ 1000000 := by omega
  have hvf := cell_u8 h_7 k_7 2 (by decide) ⟨_, rfl⟩
  have hnl := (pv_sl h_21).2.1
  rcases twice_or hv a_1 a_2 a_3 a_4 a_5 a_6 a_7 a_9 a_10 a_11 a_12 k0 with h | ⟨_, h⟩
  · exact h _
  refine Eq.trans (h _) ?_
  rw [in_eq hp hv]
  cases hi : inV a_6 a_5 a_9 a_8 a_13 a_17 a_19 with
  | none =>
    dsimp only
    rw [rin_eq hp hv, hi]
    dsimp only
    rw [out_eq hp hv hb _ _ _ _ _ _ _ hvf]
    cases ho : outV a_6 a_5 a_9 a_8 a_14 a_13 with
    | none =>
      dsimp only
      rw [rout_eq hp hv hb, ho]
      dsimp only
      rw [mem_same hp hv, show (false == false) = true from rfl, cond_true, frames_eq _ _ _ _ _ _ _ _ _ _ _ _ rfl, cond_true]
    | some r =>
      dsimp only
      cases hbt : bitm (numOf (a_9 r 2)) a_13 <;> cases a_17 <;> cases a_21 <;>
        (simp only [cond_true, cond_false]
         rw [rout_eq hp hv hb, ho]
         simp only [hbt, cond_true, cond_false]
         rw [mem_same hp hv]
         rw [show (true == true) = true from rfl, cond_true]
         rw [frames_eq _ _ _ _ _ _ _ _ _ _ _ _ (by first | rfl | (rw [hnl rfl]; exact strOf_congr fun j h => absurd h (Nat.not_lt_zero j)))]
         rfl)
  | some v =>
    dsimp only
    rw [rin_eq hp hv, hi]
    dsimp only
    rw [bne_self_eq_false, cond_false]
    rw [out_eq hp hv hb _ _ _ _ _ _ _ hvf]
    cases ho : outV a_6 a_5 a_9 a_8 a_14 a_13 with
    | none =>
      dsimp only
      rw [rout_eq hp hv hb, ho]
      dsimp only
      rw [mem_same hp hv, show (false == false) = true from rfl, cond_true, frames_eq _ _ _ _ _ _ _ _ _ _ _ _ rfl, cond_true]
    | some r =>
      dsimp only
      cases hbt : bitm (numOf (a_9 r 2)) a_13 <;> cases a_17 <;> cases a_21 <;>
        (simp only [cond_true, cond_false]
         rw [rout_eq hp hv hb, ho]
         simp only [hbt, cond_true, cond_false]
         rw [mem_same hp hv]
         rw [show (true == true) = true from rfl, cond_true]
         rw [frames_eq _ _ _ _ _ _ _ _ _ _ _ _ (by first | rfl | (rw [hnl rfl]; exact strOf_congr fun j h => absurd h (Nat.not_lt_zero j)))]
         rfl)
end Go.Proofs.Ytijabmpcicddbaa.VlanTells
