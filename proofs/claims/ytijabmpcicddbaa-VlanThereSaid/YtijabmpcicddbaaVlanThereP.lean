/- VlanThere: what the code comes to answers true. -/
import Derived.Test.YtijabmpcicddbaaVlanThereG
set_option linter.unusedVariables false
set_option linter.unusedSimpArgs false
set_option maxHeartbeats 1000000
namespace Go.Proofs.Ytijabmpcicddbaa.VlanThere
open Go.Ve
structure OutAt (pf : Nat → Nat → PV) (pn : Nat) (vf : Nat → Nat → PV) (vn : Nat) (v p : Int) (r : Nat) : Prop where
  port : 0 ≤ p ∧ p < pn
  up : boolOf (pf p.toNat 0) = true
  vlan : 1 ≤ v ∧ v ≤ 4094
  at_ : vi vf vn v = some r
  mem : memP vf vn v p = true
theorem outV_some {pf : Nat → Nat → PV} {pn : Nat} {vf : Nat → Nat → PV} {vn : Nat} {v p : Int} {r : Nat} (h : outV pf pn vf vn v p = some r) : OutAt pf pn vf vn v p r := by
  unfold outV at h
  by_cases h1 : 0 ≤ p ∧ p < pn
  rotate_left
  · rw [dec_f h1] at h; cases h
  rw [dec_t h1, Bool.true_and] at h
  cases h2 : boolOf (pf p.toNat 0) with
  | false => rw [h2] at h; cases h
  | true =>
    rw [h2, Bool.true_and] at h
    by_cases h3 : 1 ≤ v ∧ v ≤ 4094
    rotate_left
    · rw [dec_f h3] at h; cases h
    rw [dec_t h3, cond_true] at h
    cases h4 : vi vf vn v with
    | none => rw [h4] at h; cases h
    | some j =>
      rw [h4] at h
      dsimp only at h
      cases h5 : (decide (p < 8) && bitm (numOf (vf j 1)) p) with
      | false => rw [h5] at h; cases h
      | true =>
        rw [h5, cond_true] at h
        cases h
        refine ⟨h1, h2, h3, h4, ?_⟩
        unfold memP
        rw [h4]
        dsimp only
        rw [dec_t h1.1, h5]
        rfl
theorem in2_eq {pn vn : Nat} (hp : pn ≤ 1000000) (hv : vn ≤ 1000000) (b1 b2 b3 : Int) (pnl : Bool) (pf : Nat → Nat → PV) (vnl : Bool) (vf : Nat → Nat → PV) (qnl : Bool) (qn : Nat) (qf : Nat → Nat → PV) (v p d s x z : Int) (bnl : Bool) (bn : Nat) (bf : Nat → Nat → PV) {r : Nat} (o : OutAt pf pn vf vn v p r) {α : Type} (k0 : Bool → Nat → (Nat → Nat → PV) → Option α) (k1 : Int → Bool → Nat → (Nat → Nat → PV) → Option α) :
    vlan_In_v2 b1 b2 b3 pnl pn pf vnl vn vf qnl qn qf p d s x v z bnl bn bf k0 k1 = k1 v bnl bn bf := by
  unfold vlan_In_v2 vlan_In_v2_T
  rw [up_eq, dec_t o.port, o.up, Bool.true_and]
  rw [Bool.not_true, cond_false, inb_t o.port.1 o.port.2, cond_true, show (v != 0) = true from bne_iff_ne.2 (by have := o.vlan; omega), cond_true, members_eq hp hv]
  rw [memL_has vf vn pn v p o.port.1 o.port.2, o.mem, cond_true]
theorem in1_eq {pn vn : Nat} (hp : pn ≤ 1000000) (hv : vn ≤ 1000000) (b1 b2 b3 : Int) (pnl : Bool) (pf : Nat → Nat → PV) (vnl : Bool) (vf : Nat → Nat → PV) (qnl : Bool) (qn : Nat) (qf : Nat → Nat → PV) (v p d s z : Int) (bnl : Bool) (bn : Nat) (bf : Nat → Nat → PV) {r : Nat} (o : OutAt pf pn vf vn v p r) {α : Type} (k0 : Bool → Nat → (Nat → Nat → PV) → Option α) (k1 : Int → Bool → Nat → (Nat → Nat → PV) → Option α) :
    vlan_In_v1 b1 b2 b3 pnl pn pf vnl vn vf qnl qn qf p d s z bnl bn bf k0 k1 = bif memP vf vn (numOf (pf p.toNat 2)) p then k1 (numOf (pf p.toNat 2)) bnl bn bf else k0 bnl bn bf := by
  unfold vlan_In_v1 vlan_In_v1_T
  rw [up_eq, dec_t o.port, o.up, Bool.true_and]
  rw [Bool.not_true, cond_false, inb_t o.port.1 o.port.2, cond_true, members_eq hp hv]
  rw [memL_has vf vn pn _ p o.port.1 o.port.2]
theorem main {α : Type} (a_1 : Int) (a_2 : Int) (a_3 : Int) (a_4 : Bool) (a_5 : Nat) (a_6 : Nat → Nat → PV) (a_7 : Bool) (a_8 : Nat) (a_9 : Nat → Nat → PV) (a_10 : Bool) (a_11 : Nat) (a_12 : Nat → Nat → PV) (a_13 : Int) (a_14 : Int) (a_15 : Int) (a_16 : Int) (a_17 : Bool) (a_18 : Int) (a_19 : Int) (a_20 : Int) (a_21 : Bool) (a_22 : Nat) (a_23 : Nat → Nat → PV) (h_1 : PvOk (.val (.int .i64 a_1))) (h_2 : PvOk (.val (.int .i64 a_2))) (h_3 : PvOk (.val (.int .i64 a_3))) (h_4 : PvOk (.sl a_4 (.bool (.int .u32 (.int .i64 .nil))) 3 a_5 a_6)) (k_4 : RowK (.bool (.int .u32 (.int .i64 .nil))) a_5 a_6) (h_7 : PvOk (.sl a_7 (.int .i64 (.int .u8 (.int .u8 .nil))) 3 a_8 a_9)) (k_7 : RowK (.int .i64 (.int .u8 (.int .u8 .nil))) a_8 a_9) (h_10 : PvOk (.sl a_10 (.int .u64 (.int .i64 (.int .i64 .nil))) 3 a_11 a_12)) (k_10 : RowK (.int .u64 (.int .i64 (.int .i64 .nil))) a_11 a_12) (h_13 : PvOk (.val (.int .i64 a_13))) (h_14 : PvOk (.val (.int .i64 a_14))) (h_15 : PvOk (.val (.int .u64 a_15))) (h_16 : PvOk (.val (.int .u64 a_16))) (h_18 : PvOk (.val (.int .i64 a_18))) (h_19 : PvOk (.val (.int .i64 a_19))) (h_20 : PvOk (.val (.int .i64 a_20))) (h_21 : PvOk (.sl a_21 (.int .u8 .nil) 1 a_22 a_23)) (k_21 : RowK (.int .u8 .nil) a_22 a_23) (k0 k1 : Option α) : law19_VlanThere a_1 a_2 a_3 a_4 a_5 a_6 a_7 a_8 a_9 a_10 a_11 a_12 a_13 a_14 a_15 a_16 a_17 a_18 a_19 a_20 a_21 a_22 a_23 k0 k1 = k0 := by
  unfold law19_VlanThere law19_VlanThere_T law05_Fair law05_Fair_T
  by_cases s1 : (a_5 : Int) ≤ 20
  rotate_left
  · rw [dec_f s1]; rfl
  by_cases s2 : (a_8 : Int) ≤ 40
  rotate_left
  · rw [dec_t s1, dec_f s2]; rfl
  by_cases s3 : (a_11 : Int) ≤ 40
  rotate_left
  · rw [dec_t s1, dec_t s2, dec_f s3]; rfl
  rw [dec_t s1, cond_true, dec_t s2, cond_true, dec_t s3]
  dsimp only
  rw [Bool.not_true, cond_false]
  have hp : a_5 ≤ 1000000 := by omega
  have hv : a_8 ≤ 1000000 := by omega
  obtain ⟨g, hg⟩ := good_b a_1 a_2 a_3 a_4 a_5 hp a_6 a_7 a_8 hv a_9 a_10 a_11 (by omega) a_12
  rw [hg]
  cases g with
  | true => rfl
  | false =>
    rw [cond_false]
    by_cases s4 : (a_22 : Int) > 2000
    · rw [dec_t s4]; rfl
    rw [dec_f s4, cond_false]
    have hb : a_22 ≤ 1000000 := by omega
    have hvf := cell_u8 h_7 k_7 2 (by decide) ⟨_, rfl⟩
    rw [out_eq hp hv hb _ _ _ _ _ _ _ hvf]
    cases ho : outV a_6 a_5 a_9 a_8 a_14 a_13 with
    | none => rfl
    | some r =>
      have o := outV_some ho
      dsimp only
      cases hbt : bitm (numOf (a_9 r 2)) a_13 with
      | true =>
        cases a_17 <;> cases a_21 <;>
          (simp only [cond_true, cond_false]
           rw [in2_eq hp hv _ _ _ _ _ _ _ _ _ _ _ _ _ _ _ _ _ _ _ o, beq_self_eq_true, cond_true]
           try rfl)
      | false =>
        cases a_21 <;>
          (simp only [cond_true, cond_false]
           rw [in1_eq hp hv _ _ _ _ _ _ _ _ _ _ _ _ _ _ _ _ _ _ o, dec_t (show a_13 ≥ 0 from o.port.1), cond_true, dec_t o.port.2, cond_true, inb_t o.port.1 o.port.2, cond_true]
           by_cases hq : numOf (a_6 a_13.toNat 2) = a_14
           · rw [hq, o.mem, cond_true, bne_self_eq_false, cond_false, beq_self_eq_true, cond_true]
           · rw [show (numOf (a_6 a_13.toNat 2) != a_14) = true from bne_iff_ne.2 hq, cond_true, cond_true]
             cases memP a_9 a_8 (numOf (a_6 a_13.toNat 2)) a_13 <;> rfl)
end Go.Proofs.Ytijabmpcicddbaa.VlanThere
