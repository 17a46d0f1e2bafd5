/- FdbRoom: what the code comes to answers true. -/
import Derived.Test.YtampnnhdgnhjaaaFdbRoomL
set_option linter.unusedVariables false
set_option linter.unusedSimpArgs false
set_option maxHeartbeats 1000000
namespace Go.Proofs.Ytampnnhdgnhjaaa.FdbRoom
open Go.Ve
/-- the address that is learned at a place -/
def mc (row : Nat → Nat → PV) (j : Nat) : Int := numOf (row j 0)
def en (row : Nat → Nat → PV) (j : Nat) : En := ⟨mc row j + 1, 1, (j : Int) % 8, (j : Int)⟩
/-- is a place its address' last one ahead of i? -/
def Last (row : Nat → Nat → PV) (i j : Nat) : Prop := j < i ∧ ∀ t, j < t → t < i → mc row t ≠ mc row j
structure Inv (row : Nat → Nat → PV) (i : Nat) (L : List En) : Prop where
  t : TabOk (i : Int) L
  b : ∀ e ∈ L, ∃ j, e = en row j ∧ Last row i j
  c : ∀ j, Last row i j → en row j ∈ L ∨ (L.length = 32 ∧ ∀ e ∈ L, (j : Int) < e.seen)
theorem length_full {L : List En} (h : L.length = 32) (e : En) : (learnL L e).length = 32 := by
  unfold learnL
  cases hasK L e.vlan e.mac with
  | true => rw [cond_true, List.length_set]; exact h
  | false => rw [cond_false, decide_eq_true (by omega : 32 ≤ L.length), cond_true, length_putAt, List.length_eraseIdx, if_pos (oldN_lt L _ (by omega))]; omega
theorem inv_step {row : Nat → Nat → PV} {i : Nat} {L : List En} (hI : Inv row i L) (hi : i < 1000000) : Inv row (i + 1) (learnL L (en row i)) := by
  have hT : TabOk (i : Int) (learnL L (en row i)) := hI.t.learn rfl
  refine ⟨by have := hT.up (by omega); simpa using this, fun e he => ?_, fun j hj => ?_⟩
  · rcases mem_learn he with rfl | h
    · exact ⟨i, rfl, Nat.lt_succ_self i, fun t h1 h2 => by omega⟩
    · obtain ⟨j, rfl, hj, hl⟩ := hI.b e h
      by_cases hm : mc row i = mc row j
      · have := learn_key hI.t.s he ⟨rfl, by show mc row j + 1 = mc row i + 1; rw [hm]⟩
        have h2 : ((j : Nat) : Int) = (i : Int) := congrArg En.seen this
        omega
      · exact ⟨j, rfl, by omega, fun t h1 h2 => by
          rcases Nat.lt_succ_iff_lt_or_eq.1 h2 with h3 | rfl
          · exact hl t h1 h3
          · exact hm⟩
  · rcases Nat.lt_succ_iff_lt_or_eq.1 hj.1 with h1 | rfl
    · have hl : Last row i j := ⟨h1, fun t h2 h3 => hj.2 t h2 (by omega)⟩
      have hm : mc row i ≠ mc row j := hj.2 i h1 (Nat.lt_succ_self i)
      rcases hI.c j hl with h | ⟨h, hs⟩
      · by_cases hin : en row j ∈ learnL L (en row i)
        · exact .inl hin
        · rcases mem_learn_old hI.t.s (e := en row i) h (fun hk => hm (by
            have : mc row j + 1 = mc row i + 1 := hk.2
            omega)) with h2 | ⟨_, h32, hmin⟩
          · exact absurd h2 hin
          · right
            have hlen : L.length = 32 := by have := hI.t.n; omega
            refine ⟨length_full hlen _, fun e he => ?_⟩
            rcases mem_learn he with rfl | h3
            · show (j : Int) < (i : Int); omega
            · have h4 : (j : Int) ≤ e.seen := hmin e h3
              obtain ⟨k, rfl, hk⟩ := hI.b e h3
              by_cases hjk : k = j
              · subst hjk; exact absurd he hin
              · show (j : Int) < (k : Int)
                have h5 : (j : Int) ≤ (k : Int) := h4
                omega
      · right
        refine ⟨length_full h _, fun e he => ?_⟩
        rcases mem_learn he with rfl | h3
        · show (j : Int) < (i : Int); omega
        · exact hs e h3
    · exact .inl (mem_learn_self L hI.t.s _)
theorem inv_nil (row : Nat → Nat → PV) : Inv row 0 [] := ⟨TabOk.nil, fun e h => absurd h List.not_mem_nil, fun j h => absurd h.1 (Nat.not_lt_zero j)⟩
theorem loop0 {N : Nat} (hN : N ≤ 150) (ro : Bool) (row : Nat → Nat → PV) (hr : ∀ j, j < N → 0 ≤ mc row j ∧ mc row j ≤ 65535) : ∀ (d i fuel : Nat) (nl : Bool) (n : Nat) (f : Nat → Nat → PV) (L : List En), i + d = N → d < fuel → EL n f L → (nl = true → n = 0) → Inv row i L → ∃ nl' n' f' L', EL n' f' L' ∧ (nl' = true → n' = 0) ∧ Inv row N L' ∧
    ∀ {α : Type} (k0 : Option α) (k1 : Bool → Nat → (Nat → Nat → PV) → Int → MapL → Bool → Nat → (Nat → Nat → PV) → Option α), law18_FdbRoom_L0_l0 k0 k1 fuel ro N row (i : Int) (i : Int) [] nl n f = k1 ro N row (N : Int) [] nl' n' f'
  | 0, i, fuel + 1, nl, n, f, L, hd, hf, hE, hz, hI => by
    obtain rfl : i = N := by omega
    refine ⟨nl, n, f, L, hE, hz, hI, fun {α} k0 k1 => ?_⟩
    show law18_FdbRoom_L0_s0 _ _ _ _ k0 k1 ro i row (i : Int) (i : Int) [] nl n f = _
    unfold law18_FdbRoom_L0_s0
    rw [dec_f (Int.lt_irrefl _), cond_false]
  | d + 1, i, fuel + 1, nl, n, f, L, hd, hf, hE, hz, hI => by
    obtain ⟨b0, b1⟩ := hr i (by omega)
    unfold mc at b0 b1
    have e1 : IntKind.u64.wrap ((IntKind.u64.wrap (numOf (row i 0))) + 1) = numOf (row i 0) + 1 := by rw [u64_id (n := numOf (row i 0)) (by omega) (by omega), u64_id (by omega) (by omega)]
    have e2 : ((i : Int)).tmod 8 = (i : Int) % 8 := Int.tmod_eq_emod_of_nonneg (by omega)
    obtain ⟨nl1, n1, f1, E1, z1, hl⟩ := learn_one hE hI.t.s (by rw [← hE.n]; exact hI.t.n) (m := numOf (row i 0) + 1) (v := 1) (p := (i : Int) % 8) (c := (i : Int)) (M := []) (by omega) (gd_small (by omega) (by omega) (by decide) (by decide) (by omega) (by omega)) rfl nl hz
    have hI1 : Inv row (i + 1) (learnL L (en row i)) := inv_step hI (by omega)
    have hT1 : TabOk (i : Int) (learnL L (en row i)) := hI.t.learn rfl
    obtain ⟨n2, f2, E2, z2, ht⟩ := tick_one (L := learnL L (en row i)) E1 hT1 nl1 [] z1
    have etick : tickL (i : Int) (learnL L (en row i)) = (((i + 1 : Nat) : Int), learnL L (en row i)) := by
      unfold tickL
      rw [dec_f (by omega), cond_false]
      have : ageL ((i : Int) + 1) (learnL L (en row i)) = learnL L (en row i) := by
        unfold ageL
        rw [List.filter_eq_self]
        intro e he
        have := hT1.t e he
        exact dec_t (by omega)
      rw [this]; rfl
    rw [etick] at E2 ht
    have hn2 : n2 ≤ 32 := by rw [← E2.n]; exact hT1.n
    obtain ⟨cnl, cf, EC, hc⟩ := clone_eq E2 (by omega) nl1 z2
    obtain ⟨nl', n', f', L', hE', hz', hI', h⟩ := loop0 hN ro row hr d (i + 1) fuel nl1 n2 f2 _ (by omega) (by omega) E2 z2 hI1
    refine ⟨nl', n', f', L', hE', hz', hI', fun {α} k0 k1 => ?_⟩
    show law18_FdbRoom_L0_s0 _ _ _ _ k0 k1 ro N row (i : Int) (i : Int) [] nl n f = _
    unfold law18_FdbRoom_L0_s0
    rw [dec_t (by omega), cond_true, inb_t (by omega) (by omega), cond_true, Int.toNat_natCast, e1, e2]
    refine Eq.trans (hl _ _) ?_
    refine Eq.trans (ht _) ?_
    refine Eq.trans (hc _) ?_
    have e : IntKind.i64.wrap ((i : Int) + 1) = ((i + 1 : Nat) : Int) := by rw [i64_id (by omega) (by omega)]; rfl
    dsimp only
    rw [dec_f (by omega), cond_false, e]
    exact h k0 k1
/-! ### from the last one back -/
theorem met_loop (ro : Bool) (N : Nat) (row : Nat → Nat → PV) (i m c : Int) (snl : Bool) {sn : Nat} (hsn : sn ≤ 1000) (sf : Nat → Nat → PV) (M : MapL) (nl : Bool) (n : Nat) (f : Nat → Nat → PV) : ∀ (d k fuel : Nat) (b : Bool), k + d = sn → d < fuel → ∃ R : Bool, (R = true ↔ b = true ∨ ∃ j, k ≤ j ∧ j < sn ∧ m = numOf (sf j 0)) ∧
    ∀ {α : Type} (k0 : Bool → Nat → (Nat → Nat → PV) → Int → Int → Bool → Int → Bool → Nat → (Nat → Nat → PV) → MapL → Bool → Nat → (Nat → Nat → PV) → Option α), law18_FdbRoom_L4_v1_l0 k0 fuel ro N row i m b (k : Int) c snl sn sf M nl n f = k0 ro N row i m R c snl sn sf M nl n f
  | 0, k, fuel + 1, b, hd, hf => by
    obtain rfl : k = sn := by omega
    refine ⟨b, ⟨.inl, fun h => h.elim id fun ⟨j, h1, h2, _⟩ => by omega⟩, fun {α} k0 => ?_⟩
    show law18_FdbRoom_L4_v1_s0 _ k0 ro N row i m b (k : Int) c snl k sf M nl n f = _
    unfold law18_FdbRoom_L4_v1_s0
    rw [dec_f (Int.lt_irrefl _), cond_false]
  | d + 1, k, fuel + 1, b, hd, hf => by
    have e : IntKind.i64.wrap ((k : Int) + 1) = ((k + 1 : Nat) : Int) := by rw [i64_id (by omega) (by omega)]; rfl
    cases b with
    | true =>
      obtain ⟨R, hR, h⟩ := met_loop ro N row i m c snl hsn sf M nl n f d (k + 1) fuel true (by omega) (by omega)
      have hRt : R = true := hR.2 (.inl rfl)
      refine ⟨R, ⟨fun _ => .inl rfl, fun _ => hRt⟩, fun {α} k0 => ?_⟩
      show law18_FdbRoom_L4_v1_s0 _ k0 ro N row i m true (k : Int) c snl sn sf M nl n f = _
      unfold law18_FdbRoom_L4_v1_s0
      rw [dec_t (by omega), cond_true, cond_true, e]
      exact h k0
    | false =>
      obtain ⟨R, hR, h⟩ := met_loop ro N row i m c snl hsn sf M nl n f d (k + 1) fuel ((numOf (sf k 0)) == m) (by omega) (by omega)
      refine ⟨R, ?_, fun {α} k0 => ?_⟩
      · rw [hR, beq_iff_eq]
        constructor
        · rintro (h1 | ⟨j, h1, h2, h3⟩)
          · exact .inr ⟨k, Nat.le_refl k, by omega, h1.symm⟩
          · exact .inr ⟨j, by omega, h2, h3⟩
        · rintro (h1 | ⟨j, h1, h2, h3⟩)
          · cases h1
          · rcases Nat.eq_or_lt_of_le h1 with rfl | h4
            · exact .inl h3.symm
            · exact .inr ⟨j, h4, h2, h3⟩
      · show law18_FdbRoom_L4_v1_s0 _ k0 ro N row i m false (k : Int) c snl sn sf M nl n f = _
        unfold law18_FdbRoom_L4_v1_s0
        rw [dec_t (by omega), cond_true, cond_false, inb_t (by omega) (by omega), cond_true, Int.toNat_natCast, e]
        exact h k0
theorem met_eq (ro : Bool) (N : Nat) (row : Nat → Nat → PV) (i m c : Int) (snl : Bool) {sn : Nat} (hsn : sn ≤ 1000) (sf : Nat → Nat → PV) (M : MapL) (nl : Bool) (n : Nat) (f : Nat → Nat → PV) {α : Type} (k0 : Bool → Nat → (Nat → Nat → PV) → Int → Int → Bool → Int → Bool → Nat → (Nat → Nat → PV) → MapL → Bool → Nat → (Nat → Nat → PV) → Option α) :
    law18_FdbRoom_L4_v1 ro N row i m c snl sn sf M nl n f k0 = k0 ro N row i m (hasP sf sn m) c snl sn sf M nl n f := by
  obtain ⟨R, hR, h⟩ := met_loop ro N row i m c snl hsn sf M nl n f sn 0 18446744073709551616 false (by omega) (by omega)
  have : R = hasP sf sn m := by
    rw [Bool.eq_iff_iff, hR, hasP_iff]
    exact ⟨fun h => h.elim (fun h => nomatch h) fun ⟨j, _, h2, h3⟩ => ⟨j, h2, h3⟩, fun ⟨j, h2, h3⟩ => .inr ⟨j, Nat.zero_le j, h2, h3⟩⟩
  unfold law18_FdbRoom_L4_v1
  rw [← this]
  exact h k0
/-- how many entries were seen from t on -/
def cnt (L : List En) (t : Nat) : Nat := (L.filter fun e => decide ((t : Int) ≤ e.seen)).length
theorem cnt_same {L : List En} {j : Nat} (h : ∀ e ∈ L, e.seen ≠ (j : Int)) : cnt L j = cnt L (j + 1) := by
  unfold cnt
  congr 1
  refine List.filter_congr fun e he => ?_
  have := h e he
  by_cases h1 : (j : Int) ≤ e.seen
  · rw [dec_t h1, dec_t (by omega)]
  · rw [dec_f h1, dec_f (by omega)]
theorem cnt_more {L : List En} (hs : Srt L) {j : Nat} {x : En} (hx : x ∈ L) (hxj : x.seen = (j : Int)) (h : ∀ e ∈ L, e.seen = (j : Int) → e = x) : cnt L j = cnt L (j + 1) + 1 := by
  obtain ⟨A, B, rfl⟩ := List.append_of_mem hx
  have hp := List.pairwise_append.1 hs
  have hA : ∀ e ∈ A, e.seen ≠ (j : Int) := fun e he hj => by
    have e1 := h e (by simp [he]) hj
    have := hp.2.2 e he x (by simp)
    rw [e1, kl_iff] at this
    omega
  have hB : ∀ e ∈ B, e.seen ≠ (j : Int) := fun e he hj => by
    have e1 := h e (by simp [he]) hj
    have := (List.pairwise_cons.1 hp.2.1).1 e he
    rw [e1, kl_iff] at this
    omega
  have a1 := cnt_same hA
  have b1 := cnt_same hB
  unfold cnt at a1 b1 ⊢
  rw [List.filter_append, List.filter_cons, if_pos (by rw [hxj]; simp), List.filter_append, List.filter_cons, if_neg (by rw [hxj, decide_eq_true_eq]; omega)]
  simp only [List.length_append, List.length_cons]
  omega
theorem cnt_le (L : List En) (t : Nat) : cnt L t ≤ L.length := List.length_filter_le _ _
theorem cnt_all {L : List En} {t : Nat} (h : ∀ e ∈ L, (t : Int) ≤ e.seen) : cnt L t = L.length := by
  unfold cnt
  rw [List.filter_eq_self.2 fun e he => dec_t (h e he)]
theorem hasP_add (k : IntKind) (f : Nat → Nat → PV) (n : Nat) (y x : Int) : hasP (catf n f (rowOf 1 [.val (.int k y)])) (n + 1) x = (hasP f n x || (x == y)) := by
  unfold hasP
  rw [List.range_succ, List.any_append]
  congr 1
  · rw [Bool.eq_iff_iff, List.any_eq_true, List.any_eq_true]
    constructor
    · rintro ⟨j, hj, h⟩
      rw [catf_lo (List.mem_range.1 hj)] at h
      exact ⟨j, hj, h⟩
    · rintro ⟨j, hj, h⟩
      refine ⟨j, hj, ?_⟩
      rw [catf_lo (List.mem_range.1 hj)]
      exact h
  · have : catf n f (rowOf 1 [.val (.int k y)]) n 0 = .val (.int k y) := by
      have := catf_hi n f (rowOf 1 [.val (.int k y)]) 0 0
      rw [Nat.add_zero] at this
      rw [this]; rfl
    simp only [List.any_cons, List.any_nil, Bool.or_false, this]
    rfl
theorem loop2 {N : Nat} (hN : N ≤ 150) (ro : Bool) (row : Nat → Nat → PV) (hr : ∀ j, j < N → 0 ≤ mc row j ∧ mc row j ≤ 65535) {L : List En} (hI : Inv row N L) (c : Int) {nl : Bool} {n : Nat} {f : Nat → Nat → PV} (hE : EL n f L) : ∀ (t fuel : Nat) (snl : Bool) (sn : Nat) (sf : Nat → Nat → PV), t ≤ N → t < fuel → sn = cnt L t → (∀ x : Int, hasP sf sn x = true ↔ ∃ j, t ≤ j ∧ j < N ∧ x = mc row j + 1) →
    ∃ snl' sf', ∀ {α : Type} (k0 : Option α) (k1 : Int → Bool → Nat → (Nat → Nat → PV) → MapL → Bool → Nat → (Nat → Nat → PV) → Option α), law18_FdbRoom_L2_l0 k0 k1 fuel ro N row ((t : Int) - 1) c snl sn sf [] nl n f = k1 c snl' L.length sf' [] nl n f
  | 0, fuel + 1, snl, sn, sf, ht, hf, hs, hm => by
    rw [cnt_all (fun e he => by have := hI.t.t e he; omega)] at hs
    subst hs
    refine ⟨snl, sf, fun {α} k0 k1 => ?_⟩
    show law18_FdbRoom_L2_s0 _ _ _ k0 k1 ro N row _ c snl _ sf [] nl n f = _
    unfold law18_FdbRoom_L2_s0
    rw [dec_f (by omega), cond_false]
  | j + 1, fuel + 1, snl, sn, sf, ht, hf, hs, hm => by
    have hle := cnt_le L (j + 1)
    have hLn := hI.t.n
    have hEn := hE.n
    by_cases h32 : (sn : Int) < 32
    · obtain ⟨b0, b1⟩ := hr j (by omega)
      have b0' : 0 ≤ numOf (row j 0) := b0
      have b1' : numOf (row j 0) ≤ 65535 := b1
      have ej : ((j + 1 : Nat) : Int) - 1 = (j : Int) := by omega
      have e1 : IntKind.u64.wrap ((IntKind.u64.wrap (numOf (row j 0))) + 1) = mc row j + 1 := by
        rw [u64_id (n := numOf (row j 0)) (by omega) (by omega), u64_id (by omega) (by omega)]; rfl
      have e2 : ((j : Int)).tmod 8 = (j : Int) % 8 := Int.tmod_eq_emod_of_nonneg (by omega)
      have e3 : IntKind.i64.wrap ((j : Int) - 1) = (j : Int) - 1 := i64_id (by omega) (by omega)
      cases hmet : hasP sf sn (mc row j + 1) with
      | true =>
        obtain ⟨i, h1, h2, h3⟩ := (hm _).1 hmet
        have hne : ∀ e ∈ L, e.seen ≠ (j : Int) := fun e he hj => by
          obtain ⟨k, rfl, hk⟩ := hI.b e he
          have : (k : Int) = (j : Int) := hj
          obtain rfl : k = j := by omega
          exact hk.2 i (by omega) h2 (by omega)
        obtain ⟨snl', sf', h⟩ := loop2 hN ro row hr hI c (nl := nl) hE j fuel snl sn sf (by omega) (by omega) (by rw [hs, cnt_same hne]) (fun x => by
          rw [hm x]
          constructor
          · rintro ⟨k, q1, q2, q3⟩; exact ⟨k, by omega, q2, q3⟩
          · rintro ⟨k, q1, q2, q3⟩
            rcases Nat.eq_or_lt_of_le q1 with rfl | q4
            · exact ⟨i, h1, h2, by omega⟩
            · exact ⟨k, q4, q2, q3⟩)
        refine ⟨snl', sf', fun {α} k0 k1 => ?_⟩
        show law18_FdbRoom_L2_s0 _ _ _ k0 k1 ro N row _ c snl _ sf [] nl n f = _
        unfold law18_FdbRoom_L2_s0
        rw [ej, dec_t (by omega), cond_true, dec_t h32, cond_true, inb_t (by omega) (by omega), cond_true, Int.toNat_natCast, e1, met_eq ro N row _ _ c snl (by omega) sf [] nl n f, hmet, cond_true, e3]
        exact h k0 k1
      | false =>
        have hlast : Last row N j := ⟨by omega, fun t h1 h2 h3 => by
          rw [(hm (mc row j + 1)).2 ⟨t, by omega, h2, by omega⟩] at hmet
          cases hmet⟩
        have hin : en row j ∈ L := by
          rcases hI.c j hlast with h | ⟨h, ha⟩
          · exact h
          · have : cnt L (j + 1) = L.length := cnt_all fun e he => by have := ha e he; omega
            omega
        have hfind : findL L 1 (mc row j + 1) = some (en row j) := (findL_some hI.t.s).2 ⟨hin, rfl, rfl⟩
        have huniq : ∀ e ∈ L, e.seen = (j : Int) → e = en row j := fun e he hj => by
          obtain ⟨k, rfl, hk⟩ := hI.b e he
          have : (k : Int) = (j : Int) := hj
          obtain rfl : k = j := by omega
          rfl
        obtain ⟨snl', sf', h⟩ := loop2 hN ro row hr hI c (nl := nl) hE j fuel (snl && false) (sn + 1) (catf sn sf (rowOf 1 [.val (.int .u64 (mc row j + 1))])) (by omega) (by omega) (by rw [hs, cnt_more hI.t.s hin rfl huniq]) (fun x => by
          rw [hasP_add, Bool.or_eq_true, beq_iff_eq, hm x]
          constructor
          · rintro (⟨k, q1, q2, q3⟩ | h)
            · exact ⟨k, by omega, q2, q3⟩
            · exact ⟨j, Nat.le_refl j, by omega, h⟩
          · rintro ⟨k, q1, q2, q3⟩
            rcases Nat.eq_or_lt_of_le q1 with rfl | q4
            · exact .inr q3
            · exact .inl ⟨k, q4, q2, q3⟩)
        refine ⟨snl', sf', fun {α} k0 k1 => ?_⟩
        have hb : Nat.ble ((sn + 1) * 8) bound = true := ble_true (by unfold bound; omega)
        show law18_FdbRoom_L2_s0 _ _ _ k0 k1 ro N row _ c snl _ sf [] nl n f = _
        unfold law18_FdbRoom_L2_s0
        rw [ej, dec_t (by omega), cond_true, dec_t h32, cond_true, inb_t (by omega) (by omega), cond_true, Int.toNat_natCast, e1, met_eq ro N row _ _ c snl (by omega) sf [] nl n f, hmet, cond_false, hb, cond_true]
        refine Eq.trans (look_some hE hI.t.s (by omega) rfl nl hfind _ _) ?_
        have hport : ((en row j).port != ((j : Int)).tmod 8) = false := by rw [e2]; exact bne_self_eq_false _
        rw [hport, cond_false, e3]
        exact h k0 k1
    · refine ⟨snl, sf, fun {α} k0 k1 => ?_⟩
      have : sn = L.length := by omega
      subst this
      show law18_FdbRoom_L2_s0 _ _ _ k0 k1 ro N row _ c snl _ sf [] nl n f = _
      unfold law18_FdbRoom_L2_s0
      rw [dec_t (by omega), cond_true, dec_f h32, cond_false]
theorem main {α : Type} (a_1 : Bool) (a_2 : Nat) (a_3 : Nat → Nat → PV) (h_1 : PvOk (.sl a_1 (.int .u16 .nil) 1 a_2 a_3)) (k_1 : RowK (.int .u16 .nil) a_2 a_3) (k0 k1 : Option α) : law18_FdbRoom a_1 a_2 a_3 k0 k1 = k0 := by
  unfold law18_FdbRoom law18_FdbRoom_T
  by_cases hbig : (a_2 : Int) > 150
  · rw [dec_t hbig]; rfl
  rw [dec_f hbig, cond_false]
  have hr : ∀ j, j < a_2 → 0 ≤ mc a_3 j ∧ mc a_3 j ≤ 65535 := fun j hj => by
    have h1 := (pv_sl h_1).2.2 j hj 0 (by decide)
    obtain ⟨m, hm⟩ := k_1 j hj 0
    unfold mc
    rw [hm] at h1 ⊢
    exact pv_u16 h1
  obtain ⟨nl1, n1, f1, L, E1, z1, hI, h1⟩ := loop0 (N := a_2) (by omega) a_1 a_3 hr a_2 0 18446744073709551616 true 0 (fun _ _ => .val undef) [] (by omega) (by omega) (EL.nil _) (fun _ => rfl) (inv_nil a_3)
  unfold law18_FdbRoom_L0
  refine Eq.trans (h1 _ _) ?_
  have e3 : IntKind.i64.wrap ((a_2 : Int) - 1) = (a_2 : Int) - 1 := i64_id (by omega) (by omega)
  unfold law18_FdbRoom_L2
  rw [e3]
  have h0 : (0 : Nat) = cnt L a_2 := by
    unfold cnt
    rw [List.filter_eq_nil_iff.2 fun e he => ?_]
    · rfl
    · obtain ⟨j, rfl, hj⟩ := hI.b e he
      have := hj.1
      rw [decide_eq_true_eq]
      show ¬ (a_2 : Int) ≤ (j : Int)
      omega
  obtain ⟨snl', sf', h2⟩ := loop2 (N := a_2) (by omega) a_1 a_3 hr hI (a_2 : Int) (nl := nl1) E1 a_2 18446744073709551616 true 0 (fun _ _ => .val undef) (Nat.le_refl _) (by omega) h0 (fun x => ⟨(fun h => nomatch h), (fun ⟨j, q1, q2, _⟩ => by omega)⟩)
  refine Eq.trans (h2 _ _) ?_
  have hn1 : n1 ≤ 32 := by rw [← E1.n]; exact hI.t.n
  obtain ⟨cnl, cf, EC, hc⟩ := clone_eq E1 (by omega) nl1 z1
  refine Eq.trans (hc _) ?_
  rw [← E1.n]
  show (bif ((L.length : Int) == (L.length : Int)) then k0 else k1) = k0
  rw [beq_self_eq_true]
  rfl
end Go.Proofs.Ytampnnhdgnhjaaa.FdbRoom
