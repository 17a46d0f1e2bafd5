/- What the code of VLANs comes to: no VLAN twice; the members of both sides alike. -/
import Derived.Test.YtijabmpcicddbaaVlanL2
set_option linter.unusedVariables false
set_option linter.unusedSimpArgs false
set_option maxHeartbeats 1000000
namespace Go.Proofs.Ytijabmpcicddbaa.VlanTells
open Go.Ve
theorem twice_in {vn : Nat} (hv : vn ≤ 1000000) (b1 b2 b3 : Int) (pnl : Bool) (pn : Nat) (pf : Nat → Nat → PV) (vnl : Bool) (vf : Nat → Nat → PV) (qnl : Bool) (qn : Nat) (qf : Nat → Nat → PV) {α : Type} (k0 : Option α) (i : Nat) (hi : i < vn) : ∀ (d j fuel : Nat), j + d = i → d < fuel →
    (∀ k1 : Int → Int → Int → Int → Bool → Nat → (Nat → Nat → PV) → Bool → Nat → (Nat → Nat → PV) → Bool → Nat → (Nat → Nat → PV) → Option α, law19_twice_L2_l0 k0 k1 fuel (i : Int) (j : Int) b1 b2 b3 pnl pn pf vnl vn vf qnl qn qf = k0) ∨
    ((∀ q, j ≤ q → q < i → numOf (vf q 0) ≠ numOf (vf i 0)) ∧ ∀ k1 : Int → Int → Int → Int → Bool → Nat → (Nat → Nat → PV) → Bool → Nat → (Nat → Nat → PV) → Bool → Nat → (Nat → Nat → PV) → Option α, law19_twice_L2_l0 k0 k1 fuel (i : Int) (j : Int) b1 b2 b3 pnl pn pf vnl vn vf qnl qn qf = k1 (i : Int) b1 b2 b3 pnl pn pf vnl vn vf qnl qn qf)
  | 0, j, fuel + 1, hd, hf => .inr ⟨fun q h1 h2 => by omega, fun k1 => by
    show law19_twice_L2_s0 _ k0 k1 (i : Int) (j : Int) b1 b2 b3 pnl pn pf vnl vn vf qnl qn qf = _
    unfold law19_twice_L2_s0
    rw [dec_f (by omega), cond_false]⟩
  | d + 1, j, fuel + 1, hd, hf => by
    have step : ∀ k1 : Int → Int → Int → Int → Bool → Nat → (Nat → Nat → PV) → Bool → Nat → (Nat → Nat → PV) → Bool → Nat → (Nat → Nat → PV) → Option α, law19_twice_L2_l0 k0 k1 (fuel + 1) (i : Int) (j : Int) b1 b2 b3 pnl pn pf vnl vn vf qnl qn qf = bif (numOf (vf j 0)) == (numOf (vf i 0)) then k0 else law19_twice_L2_l0 k0 k1 fuel (i : Int) ((j + 1 : Nat) : Int) b1 b2 b3 pnl pn pf vnl vn vf qnl qn qf := fun k1 => by
      show law19_twice_L2_s0 _ k0 k1 (i : Int) (j : Int) b1 b2 b3 pnl pn pf vnl vn vf qnl qn qf = _
      unfold law19_twice_L2_s0
      rw [dec_t (by omega), cond_true, inb_t (by omega) (by omega), cond_true, inb_t (by omega) (by omega), cond_true, Int.toNat_natCast, Int.toNat_natCast, i64_id (by omega) (by omega)]
      rfl
    cases hq : (numOf (vf j 0)) == (numOf (vf i 0)) with
    | true => exact .inl fun k1 => by rw [step, hq, cond_true]
    | false =>
      rcases twice_in hv b1 b2 b3 pnl pn pf vnl vf qnl qn qf k0 i hi d (j + 1) fuel (by omega) (by omega) with h | ⟨hu, h⟩
      · exact .inl fun k1 => by rw [step, hq, cond_false, h]
      · refine .inr ⟨fun q h1 h2 => ?_, fun k1 => by rw [step, hq, cond_false, h]⟩
        rcases Nat.eq_or_lt_of_le h1 with e | h'
        · subst e; intro he; rw [he, beq_self_eq_true] at hq; cases hq
        · exact hu q h' h2
/-- no VLAN stands twice -/
def Uq (vf : Nat → Nat → PV) (vn : Nat) : Prop := ∀ i j, i < j → j < vn → numOf (vf i 0) ≠ numOf (vf j 0)
theorem twice_loop {vn : Nat} (hv : vn ≤ 1000000) (b1 b2 b3 : Int) (pnl : Bool) (pn : Nat) (pf : Nat → Nat → PV) (vnl : Bool) (vf : Nat → Nat → PV) (qnl : Bool) (qn : Nat) (qf : Nat → Nat → PV) {α : Type} (k0 : Option α) : ∀ (d i fuel : Nat), i + d = vn → d < fuel → (∀ a c, a < c → c < i → numOf (vf a 0) ≠ numOf (vf c 0)) →
    (∀ k1, law19_twice_L0_l0 k0 k1 fuel (i : Int) b1 b2 b3 pnl pn pf vnl vn vf qnl qn qf = k0) ∨ (Uq vf vn ∧ ∀ k1, law19_twice_L0_l0 k0 k1 fuel (i : Int) b1 b2 b3 pnl pn pf vnl vn vf qnl qn qf = k1)
  | 0, i, fuel + 1, hd, hf, hu => by
    obtain rfl : i = vn := by omega
    refine .inr ⟨hu, fun k1 => ?_⟩
    show law19_twice_L0_s0 _ _ k0 k1 (i : Int) b1 b2 b3 pnl pn pf vnl i vf qnl qn qf = _
    unfold law19_twice_L0_s0
    rw [dec_f (by omega), cond_false]
  | d + 1, i, fuel + 1, hd, hf, hu => by
    have step : ∀ k1, law19_twice_L0_l0 k0 k1 (fuel + 1) (i : Int) b1 b2 b3 pnl pn pf vnl vn vf qnl qn qf = law19_twice_L2 (i : Int) b1 b2 b3 pnl pn pf vnl vn vf qnl qn qf k0 (fun r_14 r_15 r_16 r_17 r_18 r_19 r_20 r_21 r_22 r_23 r_24 r_25 r_26 => law19_twice_L0_l0 k0 k1 fuel (IntKind.i64.wrap (r_14 + 1)) r_15 r_16 r_17 r_18 r_19 r_20 r_21 r_22 r_23 r_24 r_25 r_26) := fun k1 => by
      show law19_twice_L0_s0 _ _ k0 k1 (i : Int) b1 b2 b3 pnl pn pf vnl vn vf qnl qn qf = _
      unfold law19_twice_L0_s0
      rw [dec_t (by omega), cond_true]
    rcases twice_in hv b1 b2 b3 pnl pn pf vnl vf qnl qn qf k0 i (by omega) i 0 18446744073709551616 (by omega) (by omega) with h | ⟨hn, h⟩
    · exact .inl fun k1 => by rw [step]; unfold law19_twice_L2; exact h _
    · have step2 : ∀ k1, law19_twice_L0_l0 k0 k1 (fuel + 1) (i : Int) b1 b2 b3 pnl pn pf vnl vn vf qnl qn qf = law19_twice_L0_l0 k0 k1 fuel ((i + 1 : Nat) : Int) b1 b2 b3 pnl pn pf vnl vn vf qnl qn qf := fun k1 => by
        rw [step]
        unfold law19_twice_L2
        refine Eq.trans (h _) ?_
        rw [i64_id (by omega) (by omega)]
        rfl
      rcases twice_loop hv b1 b2 b3 pnl pn pf vnl vf qnl qn qf k0 d (i + 1) fuel (by omega) (by omega) (fun a c h1 h2 => by
        rcases Nat.lt_or_ge c i with h3 | h3
        · exact hu a c h1 h3
        · obtain rfl : c = i := by omega
          exact hn a (Nat.zero_le _) h1) with h' | ⟨hU, h'⟩
      · exact .inl fun k1 => by rw [step2, h']
      · exact .inr ⟨hU, fun k1 => by rw [step2, h']⟩
theorem twice_or {vn : Nat} (hv : vn ≤ 1000000) (b1 b2 b3 : Int) (pnl : Bool) (pn : Nat) (pf : Nat → Nat → PV) (vnl : Bool) (vf : Nat → Nat → PV) (qnl : Bool) (qn : Nat) (qf : Nat → Nat → PV) {α : Type} (k0 : Option α) :
    (∀ k1, law19_twice b1 b2 b3 pnl pn pf vnl vn vf qnl qn qf k0 k1 = k0) ∨ (Uq vf vn ∧ ∀ k1, law19_twice b1 b2 b3 pnl pn pf vnl vn vf qnl qn qf k0 k1 = k1) :=
  twice_loop hv b1 b2 b3 pnl pn pf vnl vf qnl qn qf k0 vn 0 18446744073709551616 (by omega) (by omega) (fun a c h1 h2 => by omega)
/-- a row's number of a byte -/
theorem cell_u8 {n : Nat} {k : CK} {e : Nat} {f : Nat → Nat → PV} {nl : Bool} (h : PvOk (.sl nl k e n f)) (kk : RowK k n f) (c : Nat) (hc : c < e) (hk : ∃ r, kDrop k c = .int .u8 r) : ∀ j, j < n → 0 ≤ numOf (f j c) ∧ numOf (f j c) ≤ 255 := by
  intro j hj
  have h1 := (pv_sl h).2.2 j hj c hc
  have h2 := kk j hj c
  obtain ⟨r, hr⟩ := hk
  rw [hr] at h2
  obtain ⟨m, hm⟩ := h2
  rw [hm] at h1 ⊢
  exact pv_u8 h1
end Go.Proofs.Ytijabmpcicddbaa.VlanTells
