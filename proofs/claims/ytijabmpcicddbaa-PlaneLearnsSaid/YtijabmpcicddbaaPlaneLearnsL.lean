/- Lemmas for PlaneLearns: what its functions come to. -/
import Derived.Test.YtijabmpcicddbaaPlaneLearnsU
import Derived.Test.YtijabmpcicddbaaVe37
set_option linter.unusedVariables false
set_option linter.unusedSimpArgs false
set_option maxHeartbeats 1000000
namespace Go.Proofs.Ytijabmpcicddbaa.PlaneLearns
open Go.Ve
theorem cmpi_eq {α : Type} (a b : Int) (k0 : Int → Option α) : cmp_Compare_int a b k0 = k0 (cmpI a b) := by
  unfold cmp_Compare_int cmp_Compare_int_T cmpI
  rw [bne_self_eq_false a, bne_self_eq_false b, cond_false, cond_false]
  cases decide (a < b) <;> cases decide (a > b) <;> rfl
theorem cmpu_eq {α : Type} (a b : Int) (k0 : Int → Option α) : cmp_Compare_uint64 a b k0 = k0 (cmpI a b) := by
  unfold cmp_Compare_uint64 cmp_Compare_uint64_T cmpI
  rw [bne_self_eq_false a, bne_self_eq_false b, cond_false, cond_false]
  cases decide (a < b) <;> cases decide (a > b) <;> rfl
theorem or_step {α : Type} (fuel : Nat) (i : Int) (nl : Bool) (f : Nat → Nat → PV) (k0 : Int → Bool → Nat → (Nat → Nat → PV) → Option α) (k1 : Bool → Nat → (Nat → Nat → PV) → Option α) :
    cmp_Or_int_L0_l0 k0 k1 (fuel + 1) 2 i nl 2 f = bif decide (i < 2) then bif inb i 2 then bif ((numOf (f i.toNat 0)) != 0) then k0 (numOf (f i.toNat 0)) nl 2 f else cmp_Or_int_L0_l0 k0 k1 fuel 2 (IntKind.i64.wrap (i + 1)) nl 2 f else none else k1 nl 2 f := rfl
theorem or_loop {α : Type} (fuel : Nat) (h : 2 < fuel) (x y : Int) (k0 : Int → Bool → Nat → (Nat → Nat → PV) → Option α) (k1 : Bool → Nat → (Nat → Nat → PV) → Option α) :
    cmp_Or_int_L0_l0 k0 k1 fuel 2 0 false 2 (rowOf 1 [.val (.int .i64 x), .val (.int .i64 y)]) = bif x != 0 then k0 x false 2 (rowOf 1 [.val (.int .i64 x), .val (.int .i64 y)]) else bif y != 0 then k0 y false 2 (rowOf 1 [.val (.int .i64 x), .val (.int .i64 y)]) else k1 false 2 (rowOf 1 [.val (.int .i64 x), .val (.int .i64 y)]) := by
  obtain ⟨g, rfl⟩ : ∃ g, fuel = g + 1 + 1 + 1 := ⟨fuel - 3, by omega⟩
  rw [or_step, or_step, or_step]
  rfl
theorem or_eq {α : Type} (x y : Int) (k0 : Int → Bool → Nat → (Nat → Nat → PV) → Option α) :
    cmp_Or_int false 2 (rowOf 1 [.val (.int .i64 x), .val (.int .i64 y)]) k0 = k0 (orI x y) false 2 (rowOf 1 [.val (.int .i64 x), .val (.int .i64 y)]) := by
  unfold cmp_Or_int cmp_Or_int_T cmp_Or_int_L0
  have := or_loop (α := α) 18446744073709551616 (by decide) x y (fun r_4 r_5 r_6 r_7 => k0 r_4 r_5 r_6 r_7) (fun r_4 r_5 r_6 => k0 0 r_4 r_5 r_6)
  refine Eq.trans this ?_
  unfold orI
  by_cases hx : x = 0
  · subst hx
    by_cases hy : y = 0
    · subst hy; rfl
    · have : (y != 0) = true := by simpa using hy
      rw [this]; rfl
  · have : (x != 0) = true := by simpa using hx
    rw [this]; rfl
theorem bs_loop {n : Nat} {f : Nat → Nat → PV} {L : List En} (hL : EL n f L) (hs : Srt L) (hn : n ≤ 1000000) (v m : Int) (nl : Bool) : ∀ (fuel i j : Nat), i ≤ pos L v m → pos L v m ≤ j → j ≤ n → j - i < fuel →
    ∀ {α : Type} (k0 : Int → Int → Bool → Nat → (Nat → Nat → PV) → Int → Int → Option α), slices_BinarySearchFunc_fdb_key_c73_L0_l0 k0 fuel (n : Int) (i : Int) (j : Int) nl n f v m = k0 (n : Int) (pos L v m : Int) nl n f v m
  | 0, i, j, h1, h2, h3, h4, α, k0 => by omega
  | fuel + 1, i, j, h1, h2, h3, h4, α, k0 => by
    have hc := cut_pos hs v m
    have hLn := hL.n
    show slices_BinarySearchFunc_fdb_key_c73_L0_s0 _ _ _ _ k0 (n : Int) (i : Int) (j : Int) nl n f v m = _
    unfold slices_BinarySearchFunc_fdb_key_c73_L0_s0
    by_cases hij : i < j
    · have hh := half i j (by omega)
      have hlt : (i + j) / 2 < L.length := by omega
      rw [dec_t (show (i : Int) < (j : Int) by omega), cond_true, hh, inb_t (by omega) (by omega), cond_true]
      have e7' : e15 f (i : Int) (j : Int) = L[(i + j) / 2].vlan := by unfold e15; rw [hh, Int.toNat_natCast, hL.vlan hlt]
      have e6' : e14 f (i : Int) (j : Int) = L[(i + j) / 2].mac := by unfold e14; rw [hh, Int.toNat_natCast, hL.mac hlt]
      have e10' : e18 (i : Int) (j : Int) = (((i + j) / 2 + 1 : Nat) : Int) := by unfold e18; rw [hh, i64_id (by omega) (by omega)]; rfl
      rw [cmpi_eq, cmpu_eq, or_eq, e7', e6', e10', key_lt]
      cases hk : kl L[(i + j) / 2] v m with
      | true =>
        rw [cond_true]
        refine bs_loop hL hs hn v m nl fuel ((i + j) / 2 + 1) j ?_ h2 h3 (by omega) k0
        rcases Nat.lt_or_ge ((i + j) / 2) (pos L v m) with h | h
        · exact h
        · rw [hc.hi _ hlt h] at hk; cases hk
      | false =>
        rw [cond_false]
        refine bs_loop hL hs hn v m nl fuel i ((i + j) / 2) h1 ?_ (by omega) (by omega) k0
        rcases Nat.lt_or_ge ((i + j) / 2) (pos L v m) with h | h
        · rw [hc.lo _ hlt h] at hk; cases hk
        · exact h
    · rw [dec_f (show ¬ (i : Int) < (j : Int) by omega), cond_false, show i = pos L v m by omega]
theorem find_lt {n : Nat} {f : Nat → Nat → PV} {L : List En} (hL : EL n f L) (hs : Srt L) (hn : n ≤ 1000000) (v m c : Int) (M : MapL) (nl : Bool) (hp : pos L v m < L.length) {α : Type} (k0 : Int → Bool → Int → MapL → Bool → Nat → (Nat → Nat → PV) → Option α) (k1 : Int → Int → MapL → Bool → Nat → (Nat → Nat → PV) → Option α) :
    fdb_Table_find v m c M nl n f k0 k1 = k0 (pos L v m : Int) (ke L[pos L v m] v m) c M nl n f := by
  have hLn := hL.n
  unfold fdb_Table_find fdb_Table_find_T slices_BinarySearchFunc_fdb_key_c73 slices_BinarySearchFunc_fdb_key_c73_T slices_BinarySearchFunc_fdb_key_c73_L0
  refine Eq.trans (bs_loop hL hs hn v m nl 18446744073709551616 0 n (Nat.zero_le _) (by omega) (Nat.le_refl _) (by omega) _) ?_
  rw [dec_t (show (pos L v m : Int) < (n : Int) by omega), cond_true, inb_t (by omega) (by omega), cond_true, cmpi_eq, cmpu_eq, or_eq, Int.toNat_natCast, hL.vlan hp, hL.mac hp, key_eq]
theorem find_ge {n : Nat} {f : Nat → Nat → PV} {L : List En} (hL : EL n f L) (hs : Srt L) (hn : n ≤ 1000000) (v m c : Int) (M : MapL) (nl : Bool) (hp : pos L v m = L.length) {α : Type} (k0 : Int → Bool → Int → MapL → Bool → Nat → (Nat → Nat → PV) → Option α) (k1 : Int → Int → MapL → Bool → Nat → (Nat → Nat → PV) → Option α) :
    fdb_Table_find v m c M nl n f k0 k1 = k1 (pos L v m : Int) c M nl n f := by
  have hLn := hL.n
  unfold fdb_Table_find fdb_Table_find_T slices_BinarySearchFunc_fdb_key_c73 slices_BinarySearchFunc_fdb_key_c73_T slices_BinarySearchFunc_fdb_key_c73_L0
  refine Eq.trans (bs_loop hL hs hn v m nl 18446744073709551616 0 n (Nat.zero_le _) (by omega) (Nat.le_refl _) (by omega) _) ?_
  rw [dec_f (show ¬ (pos L v m : Int) < (n : Int) by omega), cond_false]
theorem find_hit {n : Nat} {f : Nat → Nat → PV} {L : List En} (hL : EL n f L) (hs : Srt L) (hn : n ≤ 1000000) (v m c : Int) (M : MapL) (nl : Bool) (h : hasK L v m = true) {α : Type} (k0 : Int → Bool → Int → MapL → Bool → Nat → (Nat → Nat → PV) → Option α) (k1 : Int → Int → MapL → Bool → Nat → (Nat → Nat → PV) → Option α) :
    fdb_Table_find v m c M nl n f k0 k1 = k0 (pos L v m : Int) true c M nl n f := by
  obtain ⟨hp, hk⟩ := has_pos hs h
  rw [find_lt hL hs hn v m c M nl hp, ke_iff.2 hk]
theorem find_miss {n : Nat} {f : Nat → Nat → PV} {L : List En} (hL : EL n f L) (hs : Srt L) (hn : n ≤ 1000000) (v m c : Int) (M : MapL) (nl : Bool) (h : hasK L v m = false) :
    (∀ {α : Type} (k0 : Int → Bool → Int → MapL → Bool → Nat → (Nat → Nat → PV) → Option α) (k1 : Int → Int → MapL → Bool → Nat → (Nat → Nat → PV) → Option α), fdb_Table_find v m c M nl n f k0 k1 = k0 (pos L v m : Int) false c M nl n f) ∨
    (∀ {α : Type} (k0 : Int → Bool → Int → MapL → Bool → Nat → (Nat → Nat → PV) → Option α) (k1 : Int → Int → MapL → Bool → Nat → (Nat → Nat → PV) → Option α), fdb_Table_find v m c M nl n f k0 k1 = k1 (pos L v m : Int) c M nl n f) := by
  rcases Nat.lt_or_ge (pos L v m) L.length with hp | hp
  · left
    intro α k0 k1
    have : ke L[pos L v m] v m = false := by
      cases hk : ke L[pos L v m] v m with
      | false => rfl
      | true => rw [pos_has hp (ke_iff.1 hk)] at h; cases h
    rw [find_lt hL hs hn v m c M nl hp, this]
  · right
    intro α k0 k1
    exact find_ge hL hs hn v m c M nl (Nat.le_antisymm (cut_pos hs v m).le hp) k0 k1
theorem min_loop {n : Nat} {f : Nat → Nat → PV} {L : List En} (hL : EL n f L) (hs : Srt L) (hn : n ≤ 1000000) (nl : Bool) : ∀ (d i : Nat) (fuel : Nat) (ho : oldN L i < L.length), i + d = n → 0 < i → d < fuel →
    ∀ {α : Type} (k0 : Bool → Nat → (Nat → Nat → PV) → Int → Int → Int → Int → Option α), slices_MinFunc_fdb_Entry_c50_L0_l0 k0 fuel (i : Int) nl n f L[oldN L i].mac L[oldN L i].vlan L[oldN L i].port L[oldN L i].seen = k0 nl n f (L.getD (oldN L n) enz).mac (L.getD (oldN L n) enz).vlan (L.getD (oldN L n) enz).port (L.getD (oldN L n) enz).seen
  | 0, i, fuel + 1, ho, hd, hi, hf, α, k0 => by
    obtain rfl : i = n := by omega
    show slices_MinFunc_fdb_Entry_c50_L0_s0 _ _ _ _ k0 (i : Int) nl i f _ _ _ _ = _
    unfold slices_MinFunc_fdb_Entry_c50_L0_s0
    rw [dec_f (Int.lt_irrefl _), cond_false, List.getD_eq_getElem?_getD, List.getElem?_eq_getElem ho]
    rfl
  | d + 1, i, fuel + 1, ho, hd, hi, hf, α, k0 => by
    have hLn := hL.n
    have hlt : i < L.length := by omega
    have hol := oldN_lt L i hi
    show slices_MinFunc_fdb_Entry_c50_L0_s0 _ _ _ _ k0 (i : Int) nl n f _ _ _ _ = _
    unfold slices_MinFunc_fdb_Entry_c50_L0_s0
    rw [dec_t (show (i : Int) < (n : Int) by omega), cond_true, inb_t (by omega) (by omega), cond_true, cmpi_eq, cmpi_eq, cmpu_eq, or_eq, or_eq, Int.toNat_natCast, hL.seen hlt, hL.vlan hlt, hL.mac hlt, hL.port hlt, i64_id (by omega) (by omega)]
    have ho2 := hs.at hlt hol
    rw [old_lt L[i] L[oldN L i] ho2]
    have hstep : oldN L (i + 1) = bif decide (L[i].seen < L[oldN L i].seen) then i else oldN L i := by
      show (bif decide ((L.getD i enz).seen < (L.getD (oldN L i) enz).seen) then i else oldN L i) = _
      rw [List.getD_eq_getElem?_getD, List.getElem?_eq_getElem hlt, List.getD_eq_getElem?_getD, List.getElem?_eq_getElem ho]
      rfl
    cases hx : decide (L[i].seen < L[oldN L i].seen) with
    | true =>
      rw [hx, cond_true] at hstep
      rw [cond_true, cond_true]
      have := min_loop hL hs hn nl d (i + 1) fuel (by rw [hstep]; exact hlt) (by omega) (by omega) (by omega) k0
      simp only [hstep] at this
      exact this
    | false =>
      rw [hx, cond_false] at hstep
      rw [cond_false]
      have := min_loop hL hs hn nl d (i + 1) fuel (by rw [hstep]; exact ho) (by omega) (by omega) (by omega) k0
      simp only [hstep] at this
      exact this
theorem min_eq {n : Nat} {f : Nat → Nat → PV} {L : List En} (hL : EL n f L) (hs : Srt L) (hn : n ≤ 1000000) (nl : Bool) (h0 : 0 < n) {α : Type} (k0 : Bool → Nat → (Nat → Nat → PV) → Int → Int → Int → Int → Option α) :
    slices_MinFunc_fdb_Entry_c50_L0 nl n f (numOf (f 0 0)) (numOf (f 0 1)) (numOf (f 0 2)) (numOf (f 0 3)) k0 = k0 nl n f (L.getD (oldN L n) enz).mac (L.getD (oldN L n) enz).vlan (L.getD (oldN L n) enz).port (L.getD (oldN L n) enz).seen := by
  have hLn := hL.n
  have h1 : 0 < L.length := by omega
  have ho : oldN L 1 = 0 := by
    show (bif decide ((L.getD 0 enz).seen < (L.getD 0 enz).seen) then 0 else 0) = 0
    cases decide ((L.getD 0 enz).seen < (L.getD 0 enz).seen) <;> rfl
  rw [hL.mac h1, hL.vlan h1, hL.port h1, hL.seen h1]
  unfold slices_MinFunc_fdb_Entry_c50_L0
  have := min_loop hL hs hn nl (n - 1) 1 18446744073709551616 (by rw [ho]; exact h1) (by omega) (by decide) (by omega) k0
  simp only [ho] at this
  exact this
theorem del_eq {n : Nat} {f : Nat → Nat → PV} {L : List En} (hL : EL n f L) (hn : n ≤ 1000000) (nl : Bool) (i : Nat) (hi : i < n) : ∃ n' f', EL n' f' (L.eraseIdx i) ∧ n' ≤ n ∧
    ∀ {α : Type} (k0 k1 : Bool → Nat → (Nat → Nat → PV) → Option α), slices_Delete_fdb_Entry (i : Int) (((i + 1 : Nat) : Nat) : Int) nl n f k0 k1 = k1 nl n' f' := by
  have h := hL.erase i hi
  refine ⟨_, _, h.clr (((i + (n - (i + 1)) : Nat) : Int).toNat) (((n : Int).toNat) - (((i + (n - (i + 1)) : Nat) : Int).toNat)) [.int .u64 0, .int .i64 0, .int .i64 0, .int .i64 0] (by omega), by omega, fun {α} k0 k1 => ?_⟩
  unfold slices_Delete_fdb_Entry slices_Delete_fdb_Entry_T
  have b1 : Nat.ble (i + (n - (i + 1))) n = true := ble_true (by omega)
  have b2 : Nat.ble ((i + (n - (i + 1))) * 32) bound = true := bnd32 (by omega)
  have e9 : ((i : Int) == ((i + 1 : Nat) : Int)) = false := by
    cases hh : ((i : Int) == ((i + 1 : Nat) : Int)) with
    | false => rfl
    | true => have := eq_of_beq hh; omega
  simp only [inb_t (show (0 : Int) ≤ (n : Int) by omega) (show (n : Int) < ((n + 1 : Nat) : Int) by omega), inb_t (show (0 : Int) ≤ ((i + 1 : Nat) : Int) by omega) (show ((i + 1 : Nat) : Int) < ((n + 1 : Nat) : Int) by omega),
    dec_t (show (0 : Int) ≤ (i : Int) by omega), dec_t (show (i : Int) ≤ ((i + 1 : Nat) : Int) by omega), e9, inb_t (show (0 : Int) ≤ (i : Int) by omega) (show (i : Int) < ((n + 1 : Nat) : Int) by omega),
    dec_t (show (0 : Int) ≤ ((i + 1 : Nat) : Int) by omega), dec_t (show ((i + 1 : Nat) : Int) ≤ (n : Int) by omega), Bool.and_true, cond_true, cond_false, Int.toNat_natCast, b1, b2,
    dec_t (show (0 : Int) ≤ ((i + (n - (i + 1)) : Nat) : Int) by omega), dec_t (show ((i + (n - (i + 1)) : Nat) : Int) ≤ (n : Int) by omega), inb_t (show (0 : Int) ≤ ((i + (n - (i + 1)) : Nat) : Int) by omega) (show ((i + (n - (i + 1)) : Nat) : Int) < ((n + 1 : Nat) : Int) by omega)]
  rfl
theorem el_ins {n : Nat} {f : Nat → Nat → PV} {L : List En} (h : EL n f L) (i : Nat) (hi : i ≤ n) (e : En) : EL (n + 1) (insf i f (rowOf 4 (ecells e))) (putAt L i e) := by
  have hn := h.n
  show EL (n + 1) _ (L.take i ++ e :: L.drop i)
  have hlen : (L.take i ++ e :: L.drop i).length = L.length + 1 := length_putAt
  refine ⟨by rw [hlen, hn], fun j hj c hc => ?_⟩
  rw [hlen] at hj
  unfold insf
  by_cases h1 : j < i
  · rw [blt_t' h1, cond_true, List.getElem_append_left (by rw [List.length_take]; omega), List.getElem_take]
    exact h.r j (by omega) c hc
  · rw [blt_f' h1, cond_false, List.getElem_append_right (by rw [List.length_take]; omega)]
    by_cases h2 : j = i
    · subst h2
      rw [beq_t', cond_true, rowOf_ecells e c hc]
      simp only [List.length_take, show min j L.length = j by omega, Nat.sub_self]
      rfl
    · rw [beq_f' h2, cond_false]
      obtain ⟨k, hk⟩ : ∃ k, j = i + 1 + k := ⟨j - i - 1, by omega⟩
      subst hk
      simp only [List.length_take, show min i L.length = i by omega, show i + 1 + k - i = k + 1 by omega, List.getElem_cons_succ, List.getElem_drop]
      rw [show i + 1 + k - 1 = i + k by omega]
      exact h.r (i + k) (by omega) c hc
def gd (m v p : Int) : Bool := !(m == 0) && (decide (m < 281474976710656) && (!((bits .and .u64 (shrI .u64 m 40) 1) == 1) && (!(decide (v < 1)) && (!(decide (v ≥ 4095)) && (!(decide (p < 0)) && !(decide (p ≥ 8)))))))
theorem gd_small {m v p : Int} (h0 : 0 < m) (h1 : m < 1099511627776) (h2 : 1 ≤ v) (h3 : v < 4095) (h4 : 0 ≤ p) (h5 : p < 8) : gd m v p = true := by
  have e : shrI .u64 m 40 = m / 1099511627776 := shr_div .u64 m 40 (by decide)
  have e0 : m / 1099511627776 = 0 := by omega
  have em : (m == 0) = false := by
    cases hh : (m == 0) with
    | false => rfl
    | true => have := eq_of_beq hh; omega
  unfold gd
  rw [e, e0, em, dec_t (by omega), dec_f (by omega), dec_f (by omega), dec_f (by omega), dec_f (by omega)]
  rfl
theorem learn_no {m v p c : Int} {M : MapL} (hm : 0 ≤ m) (h : gd m v p = false ∨ mhas M [.val (.int .i64 v), .val (.int .u64 m)] = true) (nl : Bool) (n : Nat) (f : Nat → Nat → PV) {α : Type} (k0 : Int → MapL → Bool → Nat → (Nat → Nat → PV) → Option α) (k1 : Int → MapL → Bool → Nat → (Nat → Nat → PV) → Option α) (k2 : Int → MapL → Nat → (Nat → Nat → PV) → Option α) :
    fdb_Table_Learn m v p c M nl n f k0 k1 k2 = k0 c M nl n f := by
  unfold fdb_Table_Learn fdb_Table_Learn_T mac_Group mac_Group_T
  unfold gd at h
  rw [shr48 hm]
  revert h
  cases (m == 0) with
  | true => intro _; rfl
  | false =>
  cases decide (m < 281474976710656) with
  | false => intro _; rfl
  | true =>
  cases ((bits .and .u64 (shrI .u64 m 40) 1) == 1) with
  | true => intro _; rfl
  | false =>
  cases decide (v < 1) with
  | true => intro _; rfl
  | false =>
  cases decide (v ≥ 4095) with
  | true => intro _; rfl
  | false =>
  cases decide (p < 0) with
  | true => intro _; rfl
  | false =>
  cases decide (p ≥ 8) with
  | true => intro _; rfl
  | false =>
  intro h
  rcases h with h | h
  · cases h
  · simp only [Bool.not_true, cond_true, cond_false, h]
theorem learn_ins {n : Nat} {f : Nat → Nat → PV} {L : List En} (hL : EL n f L) (hs : Srt L) (hn : n ≤ 100000) (m v p c : Int) (M : MapL) (nl : Bool) (h : hasK L v m = false) : ∃ n' f', EL n' f' (putAt L (pos L v m) ⟨m, v, p, c⟩) ∧
    ∀ {α : Type} (k2 : Int → MapL → Nat → (Nat → Nat → PV) → Option α), fdb_Table_find v m c M nl n f
     (fun r_17 r_18 r_19 r_20 r_21 r_22 r_23 => bif (inb r_17 (r_22 + 1) && Nat.ble ((r_22 + 1) * 32) bound) then
      k2 r_19 r_20 (r_22 + 1) (insf r_17.toNat (r_23) (e22 m v p c))
     else none)
     (fun r_17 r_18 r_19 r_20 r_21 r_22 => bif (inb r_17 (r_21 + 1) && Nat.ble ((r_21 + 1) * 32) bound) then
      k2 r_18 r_19 (r_21 + 1) (insf r_17.toNat (r_22) (e22 m v p c))
     else none) = k2 c M n' f' := by
  have hLn := hL.n
  have hp := (cut_pos hs v m).le
  refine ⟨_, _, el_ins hL (pos L v m) (by omega) ⟨m, v, p, c⟩, fun {α} k2 => ?_⟩
  have hb : (inb (pos L v m : Int) (n + 1) && Nat.ble ((n + 1) * 32) bound) = true := by rw [inb_t (by omega) (by omega), bnd32 (by omega)]; rfl
  rcases find_miss hL hs (by omega) v m c M nl h with hf | hf
  · rw [hf, hb, cond_true, Int.toNat_natCast]; rfl
  · rw [hf, hb, cond_true, Int.toNat_natCast]; rfl
theorem learn_yes {n : Nat} {f : Nat → Nat → PV} {L : List En} (hL : EL n f L) (hs : Srt L) (hn : n ≤ 32) {m v p : Int} (c : Int) {M : MapL} (hm : 0 ≤ m) (hg : gd m v p = true) (hM : mhas M [.val (.int .i64 v), .val (.int .u64 m)] = false) (nl : Bool) (hnl : nl = true → n = 0) : ∃ nl' n' f', EL n' f' (learnL L ⟨m, v, p, c⟩) ∧ (nl' = true → n' = 0) ∧
    ((∀ {α : Type} (k0 : Int → MapL → Bool → Nat → (Nat → Nat → PV) → Option α) (k1 : Int → MapL → Bool → Nat → (Nat → Nat → PV) → Option α) (k2 : Int → MapL → Nat → (Nat → Nat → PV) → Option α), fdb_Table_Learn m v p c M nl n f k0 k1 k2 = k1 c M nl' n' f') ∨
     (∀ {α : Type} (k0 : Int → MapL → Bool → Nat → (Nat → Nat → PV) → Option α) (k1 : Int → MapL → Bool → Nat → (Nat → Nat → PV) → Option α) (k2 : Int → MapL → Nat → (Nat → Nat → PV) → Option α), fdb_Table_Learn m v p c M nl n f k0 k1 k2 = k2 c M n' f')) := by
  have hLn := hL.n
  unfold gd at hg
  simp only [Bool.and_eq_true, Bool.not_eq_true'] at hg
  obtain ⟨g1, g2, g3, g4, g5, g6, g7⟩ := hg
  unfold learnL
  cases hh : hasK L v m with
  | true =>
    rw [cond_true]
    obtain ⟨hp, hk⟩ := has_pos hs hh
    refine ⟨nl, n, _, hL.set (pos L v m) ⟨m, v, p, c⟩, hnl, .inl fun {α} k0 k1 k2 => ?_⟩
    unfold fdb_Table_Learn fdb_Table_Learn_T mac_Group mac_Group_T
    rw [shr48 hm, g1, g2, g3, g4, g5, g6, g7, hM]
    simp only [Bool.not_true, cond_true, cond_false]
    rw [find_hit hL hs (by omega) v m c M nl hh, cond_true, inb_t (by omega) (by omega), cond_true]
    unfold e19
    rw [Int.toNat_natCast]
    rfl
  | false =>
    rw [cond_false]
    by_cases h32 : 32 ≤ L.length
    · rw [decide_eq_true h32, cond_true]
      have ho := oldN_lt L L.length (by omega)
      have hkey : (L.getD (oldN L n) enz).vlan = (L[oldN L L.length]).vlan ∧ (L.getD (oldN L n) enz).mac = (L[oldN L L.length]).mac := by
        rw [← hLn, List.getD_eq_getElem?_getD, List.getElem?_eq_getElem ho]
        exact ⟨rfl, rfl⟩
      have hpo : pos L (L.getD (oldN L n) enz).vlan (L.getD (oldN L n) enz).mac = oldN L L.length := pos_at hs ho ⟨hkey.1.symm, hkey.2.symm⟩
      have hho : hasK L (L.getD (oldN L n) enz).vlan (L.getD (oldN L n) enz).mac = true := pos_has ho ⟨hkey.1.symm, hkey.2.symm⟩
      obtain ⟨n1, f1, hE1, hn1, hd⟩ := del_eq hL (by omega) nl (oldN L L.length) (by omega)
      obtain ⟨n2, f2, hE2, hi⟩ := learn_ins hE1 (hs.sublist (List.eraseIdx_sublist _ _)) (by omega) m v p c M nl (has_erase hh)
      refine ⟨false, n2, f2, hE2, (fun h => nomatch h), .inr fun {α} k0 k1 k2 => ?_⟩
      have hw : IntKind.i64.wrap ((oldN L L.length : Nat) + 1) = ((oldN L L.length + 1 : Nat) : Int) := by rw [i64_id (by omega) (by omega)]; rfl
      have d1 : decide ((n : Int) ≥ 32) = true := dec_t (by omega)
      have d2 : decide ((n : Int) < 1) = false := dec_f (by omega)
      have i0 : inb 0 n = true := inb_t (by omega) (by omega)
      unfold fdb_Table_Learn fdb_Table_Learn_T mac_Group mac_Group_T
      rw [shr48 hm, g1, g2, g3, g4, g5, g6, g7, hM]
      simp only [Bool.not_true, cond_true, cond_false]

      rcases find_miss hL hs (by omega) v m c M nl hh with hf | hf
      · rw [hf, cond_false, d1, cond_true, d2, cond_false, i0, cond_true, min_eq hL hs (by omega) nl (by omega), find_hit hL hs (by omega) _ _ c M nl hho, hpo, hw, hd]
        exact hi k2
      · rw [hf, d1, cond_true, d2, cond_false, i0, cond_true, min_eq hL hs (by omega) nl (by omega), find_hit hL hs (by omega) _ _ c M nl hho, hpo, hw, hd]
        exact hi k2
    · rw [decide_eq_false h32, cond_false]
      obtain ⟨n2, f2, hE2, hi⟩ := learn_ins hL hs (by omega) m v p c M nl hh
      refine ⟨false, n2, f2, hE2, (fun h => nomatch h), .inr fun {α} k0 k1 k2 => ?_⟩
      have d1 : decide ((n : Int) ≥ 32) = false := dec_f (by omega)
      unfold fdb_Table_Learn fdb_Table_Learn_T mac_Group mac_Group_T
      rw [shr48 hm, g1, g2, g3, g4, g5, g6, g7, hM]
      simp only [Bool.not_true, cond_true, cond_false]

      rcases find_miss hL hs (by omega) v m c M nl hh with hf | hf
      · rw [hf, cond_false, d1, cond_false]
        exact hi k2
      · rw [hf, d1, cond_false]
        exact hi k2
theorem learn_one {n : Nat} {f : Nat → Nat → PV} {L : List En} (hL : EL n f L) (hs : Srt L) (hn : n ≤ 32) {m v p : Int} (c : Int) {M : MapL} (hm : 0 ≤ m) (hg : gd m v p = true) (hM : mhas M [.val (.int .i64 v), .val (.int .u64 m)] = false) (nl : Bool) (hnl : nl = true → n = 0) : ∃ nl' n' f', EL n' f' (learnL L ⟨m, v, p, c⟩) ∧ (nl' = true → n' = 0) ∧
    ∀ {α : Type} (k0 kk : Int → MapL → Bool → Nat → (Nat → Nat → PV) → Option α), fdb_Table_Learn m v p c M nl n f k0 kk (fun c' M' n1 f1 => kk c' M' false n1 f1) = kk c M nl' n' f' := by
  obtain ⟨nl', n', f', hE, hz, h | h⟩ := learn_yes hL hs hn c hm hg hM nl hnl
  · exact ⟨nl', n', f', hE, hz, fun {α} k0 kk => h _ _ _⟩
  · exact ⟨false, n', f', hE, (fun h => nomatch h), fun {α} k0 kk => h _ _ _⟩
theorem clone_eq {n : Nat} {f : Nat → Nat → PV} {L : List En} (hL : EL n f L) (hn : n ≤ 1000000) (nl : Bool) (hnl : nl = true → n = 0) : ∃ nl' f', EL n f' L ∧ ∀ {α : Type} (k0 : Bool → Nat → (Nat → Nat → PV) → Bool → Nat → (Nat → Nat → PV) → Option α), slices_Clone_fdb_Entry nl n f k0 = k0 nl n f nl' n f' := by
  cases nl with
  | true =>
    have h0 := hnl rfl
    subst h0
    exact ⟨true, _, hL.congr fun j hj => absurd hj (Nat.not_lt_zero j), fun {α} k0 => rfl⟩
  | false =>
    refine ⟨false, catf 0 (rowOf 4 []) f, ?_, fun {α} k0 => ?_⟩
    · rw [catf_zero]; exact hL
    · unfold slices_Clone_fdb_Entry slices_Clone_fdb_Entry_T
      rw [cond_false, Nat.zero_add, bnd32 (by omega), cond_true]
theorem age_dec {c : Int} {L : List En} (h : TabOk c L) {j : Nat} (hj : j < L.length) : decide (IntKind.i64.wrap (c - L[j].seen) ≥ 300) = !decide (c - L[j].seen < 300) := by
  have h1 := h.t _ (List.getElem_mem hj)
  have h2 := h.c1
  rw [i64_id (by omega) (by omega)]
  by_cases hd : c - L[j].seen < 300
  · rw [dec_t hd, dec_f (by omega)]; rfl
  · rw [dec_f hd, dec_t (by omega)]; rfl
theorem age_all {c : Int} {L : List En} (h : ∀ j (h : j < L.length), c - L[j].seen < 300) : ageL c L = L := by
  unfold ageL
  rw [List.filter_eq_self]
  intro e he
  obtain ⟨j, hj, rfl⟩ := List.getElem_of_mem he
  exact decide_eq_true (h j hj)
theorem age_split {c : Int} {L : List En} (p : Nat) (h : ∀ j (h : j < L.length), j < p → c - L[j].seen < 300) : ageL c L = L.take p ++ ageL c (L.drop p) := by
  have h1 : ageL c L = ageL c (L.take p ++ L.drop p) := by rw [List.take_append_drop]
  rw [h1]
  unfold ageL
  rw [List.filter_append]
  congr 1
  rw [List.filter_eq_self]
  intro e he
  obtain ⟨j, hj, rfl⟩ := List.getElem_of_mem he
  rw [List.length_take] at hj
  rw [List.getElem_take]
  exact decide_eq_true (h j (by omega) (by omega))
def hasP (f : Nat → Nat → PV) (n : Nat) (x : Int) : Bool := (List.range n).any fun j => x == numOf (f j 0)
theorem hasP_iff {f : Nat → Nat → PV} {n : Nat} {x : Int} : hasP f n x = true ↔ ∃ j, j < n ∧ x = numOf (f j 0) := by
  unfold hasP
  rw [List.any_eq_true]
  exact ⟨fun ⟨j, h1, h2⟩ => ⟨j, List.mem_range.1 h1, eq_of_beq h2⟩, fun ⟨j, h1, h2⟩ => ⟨j, List.mem_range.2 h1, by rw [← h2]; exact beq_self_eq_true x⟩⟩
theorem hasP_ff {f : Nat → Nat → PV} {n : Nat} {x : Int} : hasP f n x = false ↔ ∀ j, j < n → x ≠ numOf (f j 0) := by
  constructor
  · intro h j hj e
    rw [hasP_iff.2 ⟨j, hj, e⟩] at h; cases h
  · intro h
    cases hh : hasP f n x with
    | false => rfl
    | true => obtain ⟨j, hj, e⟩ := hasP_iff.1 hh; exact absurd e (h j hj)
def stAt (f : Nat → Nat → PV) (v m : Int) (j : Nat) : Bool := (numOf (f j 0) == m) && (numOf (f j 1) == v)
def stF (f : Nat → Nat → PV) (v m : Int) : Nat → Option Nat
  | 0 => none
  | n + 1 => match stF f v m n with | some j => some j | none => bif stAt f v m n then some n else none
theorem stF_succ (f : Nat → Nat → PV) (v m : Int) (n : Nat) : stF f v m (n + 1) = match stF f v m n with | some j => some j | none => bif stAt f v m n then some n else none := rfl
theorem stF_none {f : Nat → Nat → PV} {v m : Int} : ∀ {n : Nat}, stF f v m n = none ↔ ∀ j, j < n → stAt f v m j = false
  | 0 => ⟨fun _ j h => absurd h (Nat.not_lt_zero j), fun _ => rfl⟩
  | n + 1 => by
    have ih := stF_none (f := f) (v := v) (m := m) (n := n)
    rw [stF_succ]
    cases h : stF f v m n with
    | some j =>
      refine ⟨(fun h2 => nomatch h2), fun h2 => ?_⟩
      rw [ih.2 fun j hj => h2 j (by omega)] at h
      cases h
    | none =>
      have h1 := ih.1 h
      cases h2 : stAt f v m n with
      | true => exact ⟨(fun h3 => nomatch h3), fun h3 => by rw [h3 n (Nat.lt_succ_self n)] at h2; cases h2⟩
      | false => exact ⟨fun _ j hj => by
          rcases Nat.lt_succ_iff_lt_or_eq.1 hj with h3 | rfl
          · exact h1 j h3
          · exact h2, fun _ => rfl⟩
theorem stF_some {f : Nat → Nat → PV} {v m : Int} : ∀ {n r : Nat}, r < n → stAt f v m r = true → (∀ j, j < r → stAt f v m j = false) → stF f v m n = some r
  | n + 1, r, hr, h1, h2 => by
    rw [stF_succ]
    rcases Nat.lt_succ_iff_lt_or_eq.1 hr with h3 | rfl
    · rw [stF_some h3 h1 h2]
    · rw [stF_none.2 h2, h1]; rfl
theorem pvEq_tr {x y : PV} (h : pvEq x y = true) (z : PV) : pvEq z x = pvEq z y := by
  unfold pvEq at h
  split at h
  · have := eq_of_beq h
    subst this
    unfold pvEq
    cases z with
    | val v => cases v <;> rfl
    | sl => rfl
  · have := eq_of_beq h
    subst this
    rfl
  · have h2 := eq_of_beq h
    unfold pvEq
    cases z with
    | val v => cases v <;> simp [h2]
    | sl => rfl
  · cases h
theorem keyEq_tr : ∀ {k e : List PV} (h : keyEq k e = true) (k' : List PV), keyEq k' k = keyEq k' e
  | [], [], _, k' => rfl
  | [], y :: e, h, k' => nomatch h
  | x :: k, [], h, k' => nomatch h
  | x :: k, y :: e, h, [] => rfl
  | x :: k, y :: e, h, z :: k' => by
    have h1 : (pvEq x y && keyEq k e) = true := h
    rw [Bool.and_eq_true] at h1
    show (pvEq z x && keyEq k' k) = (pvEq z y && keyEq k' e)
    rw [pvEq_tr h1.1, keyEq_tr h1.2]
theorem pvEq_sy {x y : PV} (h : pvEq x y = true) : pvEq y x = true := by
  unfold pvEq at h
  split at h
  · have := eq_of_beq h
    subst this
    exact beq_self_eq_true _
  · have := eq_of_beq h
    subst this
    exact beq_self_eq_true _
  · have h2 := eq_of_beq h
    show (_ == _) = true
    rw [h2]
    exact beq_self_eq_true _
  · cases h
theorem keyEq_sym : ∀ {a b : List PV}, keyEq a b = true → keyEq b a = true
  | [], [], _ => rfl
  | [], y :: e, h => nomatch h
  | x :: k, [], h => nomatch h
  | x :: k, y :: e, h => by
    have h1 : (pvEq x y && keyEq k e) = true := h
    rw [Bool.and_eq_true] at h1
    show (pvEq y x && keyEq e k) = true
    rw [pvEq_sy h1.1, keyEq_sym h1.2]
    rfl
theorem mput_has (k v k' : List PV) : ∀ (l : MapL), mhas (mput l k v) k' = (keyEq k' k || mhas l k')
  | [] => rfl
  | e :: r => by
    show mhas (bif keyEq k e.1 then (k, v) :: r else e :: mput r k v) k' = (keyEq k' k || (keyEq k' e.1 || mhas r k'))
    cases h : keyEq k e.1 with
    | true =>
      rw [cond_true, ← keyEq_tr h k']
      show (keyEq k' k || mhas r k') = _
      cases keyEq k' k <;> rfl
    | false =>
      rw [cond_false]
      show (keyEq k' e.1 || mhas (mput r k v) k') = _
      rw [mput_has k v k' r]
      cases keyEq k' e.1 <;> cases keyEq k' k <;> rfl
theorem mput_get (k v k' : List PV) : ∀ (l : MapL), mget (mput l k v) k' = bif keyEq k' k then v else mget l k'
  | [] => rfl
  | e :: r => by
    show mget (bif keyEq k e.1 then (k, v) :: r else e :: mput r k v) k' = bif keyEq k' k then v else bif keyEq k' e.1 then e.2 else mget r k'
    cases h : keyEq k e.1 with
    | true =>
      rw [cond_true, ← keyEq_tr h k']
      show (bif keyEq k' k then v else mget r k') = _
      cases keyEq k' k <;> rfl
    | false =>
      rw [cond_false]
      show (bif keyEq k' e.1 then e.2 else mget (mput r k v) k') = _
      rw [mput_get k v k' r]
      cases h1 : keyEq k' e.1 with
      | false => rfl
      | true =>
        cases h2 : keyEq k' k with
        | false => rfl
        | true =>
          -- k' is e's key and k's: then k is e's
          exfalso
          have : keyEq k e.1 = true := by
            have a := keyEq_tr h1 k
            have b := keyEq_tr h2 k
            have c := keyEq_sym h2
            rw [← a, c]
          rw [h] at this; cases this
def skey (v m : Int) : List PV := [.val (.int .i64 v), .val (.int .u64 m)]
theorem stat_key (f : Nat → Nat → PV) (n : Nat) (v m : Int) : keyEq (skey v m) [.val (.int .i64 (numOf (f n 1))), .val (.int .u64 (numOf (f n 0)))] = stAt f v m n := by
  unfold skey stAt
  rw [keyEq2, Bool.and_comm]
  congr 1
  · by_cases h : m = numOf (f n 0)
    · rw [dec_t h, h, beq_self_eq_true]
    · rw [dec_f h]; exact (beq_eq_false_iff_ne.2 fun e => h e.symm).symm
  · by_cases h : v = numOf (f n 1)
    · rw [dec_t h, h, beq_self_eq_true]
    · rw [dec_f h]; exact (beq_eq_false_iff_ne.2 fun e => h e.symm).symm
theorem stat_has (f : Nat → Nat → PV) (v m : Int) : ∀ (n : Nat) (l : MapL), mhas (statL f n l) (skey v m) = ((stF f v m n).isSome || mhas l (skey v m))
  | 0, l => rfl
  | n + 1, l => by
    show mhas (statL f n (mput l _ _)) (skey v m) = _
    rw [stat_has f v m n, mput_has, stat_key, stF_succ]
    cases stF f v m n with
    | some j => rfl
    | none => cases stAt f v m n <;> rfl
theorem stat_cell (f : Nat → Nat → PV) (v m : Int) : ∀ (n : Nat) (l : MapL), mget (statL f n l) (skey v m) = match stF f v m n with | some j => [.val (.int .i64 (numOf (f j 2)))] | none => mget l (skey v m)
  | 0, l => rfl
  | n + 1, l => by
    show mget (statL f n (mput l _ _)) (skey v m) = _
    rw [stat_cell f v m n, mput_get, stat_key, stF_succ]
    cases stF f v m n with
    | some j => rfl
    | none => cases stAt f v m n <;> rfl
theorem rhas_loop {sn : Nat} (hsn : sn ≤ 1000000) (sf : Nat → Nat → PV) (m v c : Int) (snl lnl : Bool) (n : Nat) (f : Nat → Nat → PV) : ∀ (d i fuel : Nat), i + d = sn → d < fuel → (∀ j, j < i → stAt sf v m j = false) →
    (∃ r, stF sf v m sn = some r ∧ ∀ {α : Type} (k0 k1 : Int → Bool → Nat → (Nat → Nat → PV) → Bool → Nat → (Nat → Nat → PV) → Option α), ref18_Table_has_L0_l0 k0 k1 fuel m v (i : Int) c snl sn sf lnl n f = k0 c snl sn sf lnl n f) ∨
    (stF sf v m sn = none ∧ ∀ {α : Type} (k0 k1 : Int → Bool → Nat → (Nat → Nat → PV) → Bool → Nat → (Nat → Nat → PV) → Option α), ref18_Table_has_L0_l0 k0 k1 fuel m v (i : Int) c snl sn sf lnl n f = k1 c snl sn sf lnl n f)
  | 0, i, fuel + 1, hd, hf, ha => by
    obtain rfl : i = sn := by omega
    refine .inr ⟨stF_none.2 ha, fun {α} k0 k1 => ?_⟩
    show ref18_Table_has_L0_s0 _ k0 k1 m v (i : Int) c snl i sf lnl n f = _
    unfold ref18_Table_has_L0_s0
    rw [dec_f (Int.lt_irrefl _), cond_false]
  | d + 1, i, fuel + 1, hd, hf, ha => by
    have step : ∀ {α : Type} (k0 k1 : Int → Bool → Nat → (Nat → Nat → PV) → Bool → Nat → (Nat → Nat → PV) → Option α), ref18_Table_has_L0_l0 k0 k1 (fuel + 1) m v (i : Int) c snl sn sf lnl n f = bif stAt sf v m i then k0 c snl sn sf lnl n f else ref18_Table_has_L0_l0 k0 k1 fuel m v ((i + 1 : Nat) : Int) c snl sn sf lnl n f := by
      intro α k0 k1
      show ref18_Table_has_L0_s0 _ k0 k1 m v (i : Int) c snl sn sf lnl n f = _
      unfold ref18_Table_has_L0_s0 stAt
      rw [dec_t (by omega), cond_true, inb_t (by omega) (by omega), cond_true, cond_true, Int.toNat_natCast, i64_id (by omega) (by omega)]
      cases (numOf (sf i 0)) == m <;> rfl
    cases hx : stAt sf v m i with
    | true => exact .inl ⟨i, stF_some (by omega) hx ha, fun {α} k0 k1 => by rw [step, hx]; rfl⟩
    | false =>
      rcases rhas_loop hsn sf m v c snl lnl n f d (i + 1) fuel (by omega) (by omega) (fun j hj => by
        rcases Nat.lt_succ_iff_lt_or_eq.1 hj with h3 | rfl
        · exact ha j h3
        · exact hx) with ⟨r, hr, he⟩ | ⟨hr, he⟩
      · exact .inl ⟨r, hr, fun {α} k0 k1 => by rw [step, hx]; exact he k0 k1⟩
      · exact .inr ⟨hr, fun {α} k0 k1 => by rw [step, hx]; exact he k0 k1⟩
theorem rhas_yes {sn : Nat} (hsn : sn ≤ 1000000) (sf : Nat → Nat → PV) (m v c : Int) (snl lnl : Bool) (n : Nat) (f : Nat → Nat → PV) {r : Nat} (h : stF sf v m sn = some r) {α : Type} (k0 k1 : Int → Bool → Nat → (Nat → Nat → PV) → Bool → Nat → (Nat → Nat → PV) → Option α) :
    ref18_Table_has m v c snl sn sf lnl n f k0 k1 = k0 c snl sn sf lnl n f := by
  unfold ref18_Table_has ref18_Table_has_T ref18_Table_has_L0
  rcases rhas_loop hsn sf m v c snl lnl n f sn 0 18446744073709551616 (by omega) (by omega) (fun j hj => absurd hj (Nat.not_lt_zero j)) with ⟨_, _, he⟩ | ⟨hr, _⟩
  · exact he _ _
  · rw [h] at hr; cases hr
theorem rhas_no {sn : Nat} (hsn : sn ≤ 1000000) (sf : Nat → Nat → PV) (m v c : Int) (snl lnl : Bool) (n : Nat) (f : Nat → Nat → PV) (h : stF sf v m sn = none) {α : Type} (k0 k1 : Int → Bool → Nat → (Nat → Nat → PV) → Bool → Nat → (Nat → Nat → PV) → Option α) :
    ref18_Table_has m v c snl sn sf lnl n f k0 k1 = k1 c snl sn sf lnl n f := by
  unfold ref18_Table_has ref18_Table_has_T ref18_Table_has_L0
  rcases rhas_loop hsn sf m v c snl lnl n f sn 0 18446744073709551616 (by omega) (by omega) (fun j hj => absurd hj (Nat.not_lt_zero j)) with ⟨_, hr, _⟩ | ⟨_, he⟩
  · rw [h] at hr; cases hr
  · exact he _ _
theorem rat_loop {n : Nat} {f : Nat → Nat → PV} {L : List En} (hL : EL n f L) (hs : Srt L) (hn : n ≤ 1000000) (m v c : Int) (snl lnl : Bool) (sn : Nat) (sf : Nat → Nat → PV) : ∀ (d i fuel : Nat), i + d = n → d < fuel → (∀ j (h : j < L.length), j < i → ¬ (L[j].vlan = v ∧ L[j].mac = m)) →
    (hasK L v m = true ∧ ∀ {α : Type} (k0 : Int → Int → Bool → Nat → (Nat → Nat → PV) → Bool → Nat → (Nat → Nat → PV) → Option α) (k1 : Int → Bool → Nat → (Nat → Nat → PV) → Bool → Nat → (Nat → Nat → PV) → Option α), ref18_Table_at_L0_l0 k0 k1 fuel m v (i : Int) c snl sn sf lnl n f = k0 (pos L v m : Int) c snl sn sf lnl n f) ∨
    (hasK L v m = false ∧ ∀ {α : Type} (k0 : Int → Int → Bool → Nat → (Nat → Nat → PV) → Bool → Nat → (Nat → Nat → PV) → Option α) (k1 : Int → Bool → Nat → (Nat → Nat → PV) → Bool → Nat → (Nat → Nat → PV) → Option α), ref18_Table_at_L0_l0 k0 k1 fuel m v (i : Int) c snl sn sf lnl n f = k1 c snl sn sf lnl n f)
  | 0, i, fuel + 1, hd, hf, ha => by
    have hLn := hL.n
    obtain rfl : i = n := by omega
    refine .inr ⟨hasK_ff.2 fun e he => ?_, fun {α} k0 k1 => ?_⟩
    · obtain ⟨j, hj, rfl⟩ := List.getElem_of_mem he
      exact ha j hj (by omega)
    · show ref18_Table_at_L0_s0 _ k0 k1 m v (i : Int) c snl sn sf lnl i f = _
      unfold ref18_Table_at_L0_s0
      rw [dec_f (Int.lt_irrefl _), cond_false]
  | d + 1, i, fuel + 1, hd, hf, ha => by
    have hLn := hL.n
    have hlt : i < L.length := by omega
    have step : ∀ {α : Type} (k0 : Int → Int → Bool → Nat → (Nat → Nat → PV) → Bool → Nat → (Nat → Nat → PV) → Option α) (k1 : Int → Bool → Nat → (Nat → Nat → PV) → Bool → Nat → (Nat → Nat → PV) → Option α), ref18_Table_at_L0_l0 k0 k1 (fuel + 1) m v (i : Int) c snl sn sf lnl n f = bif (L[i].mac == m) && (L[i].vlan == v) then k0 (i : Int) c snl sn sf lnl n f else ref18_Table_at_L0_l0 k0 k1 fuel m v ((i + 1 : Nat) : Int) c snl sn sf lnl n f := by
      intro α k0 k1
      show ref18_Table_at_L0_s0 _ k0 k1 m v (i : Int) c snl sn sf lnl n f = _
      unfold ref18_Table_at_L0_s0
      rw [dec_t (by omega), cond_true, inb_t (by omega) (by omega), cond_true, cond_true, Int.toNat_natCast, hL.mac hlt, hL.vlan hlt, i64_id (by omega) (by omega)]
      cases L[i].mac == m <;> rfl
    cases hx : (L[i].mac == m) && (L[i].vlan == v) with
    | true =>
      have h2 : L[i].vlan = v ∧ L[i].mac = m := by
        rw [Bool.and_eq_true] at hx
        exact ⟨eq_of_beq hx.2, eq_of_beq hx.1⟩
      exact .inl ⟨pos_has hlt h2, fun {α} k0 k1 => by rw [step, hx, pos_at hs hlt h2]; rfl⟩
    | false =>
      have h2 : ¬ (L[i].vlan = v ∧ L[i].mac = m) := fun ⟨a, b⟩ => by
        rw [a, b, beq_self_eq_true, beq_self_eq_true] at hx; cases hx
      rcases rat_loop hL hs hn m v c snl lnl sn sf d (i + 1) fuel (by omega) (by omega) (fun j h hj => by
        rcases Nat.lt_succ_iff_lt_or_eq.1 hj with h3 | rfl
        · exact ha j h h3
        · exact h2) with ⟨hr, he⟩ | ⟨hr, he⟩
      · exact .inl ⟨hr, fun {α} k0 k1 => by rw [step, hx]; exact he k0 k1⟩
      · exact .inr ⟨hr, fun {α} k0 k1 => by rw [step, hx]; exact he k0 k1⟩
theorem rat_eq {n : Nat} {f : Nat → Nat → PV} {L : List En} (hL : EL n f L) (hs : Srt L) (hn : n ≤ 1000000) (m v c : Int) (snl lnl : Bool) (sn : Nat) (sf : Nat → Nat → PV) {α : Type} (k0 : Int → Int → Bool → Nat → (Nat → Nat → PV) → Bool → Nat → (Nat → Nat → PV) → Option α) :
    ref18_Table_at m v c snl sn sf lnl n f k0 = k0 (bif hasK L v m then (pos L v m : Int) else -1) c snl sn sf lnl n f := by
  unfold ref18_Table_at ref18_Table_at_T ref18_Table_at_L0
  rcases rat_loop hL hs hn m v c snl lnl sn sf n 0 18446744073709551616 (by have := hL.n; omega) (by omega) (fun j _ hj => absurd hj (Nat.not_lt_zero j)) with ⟨hr, he⟩ | ⟨hr, he⟩
  · rw [hr]; exact he _ _
  · rw [hr]; exact he _ _
theorem rold_loop {n : Nat} {f : Nat → Nat → PV} {L : List En} (hL : EL n f L) (hn : n ≤ 1000000) (c : Int) (snl lnl : Bool) (sn : Nat) (sf : Nat → Nat → PV) (m v p c' : Int) : ∀ (d i fuel : Nat), i + d = n → d < fuel → ∀ {α : Type} (k0 : Int → Int → Bool → Nat → (Nat → Nat → PV) → Bool → Nat → (Nat → Nat → PV) → Int → Int → Int → Int → Option α),
    ref18_Table_Learn_L0_l0 k0 fuel (oldN L i : Int) (i : Int) c snl sn sf lnl n f m v p c' = k0 (oldN L n : Int) c snl sn sf lnl n f m v p c'
  | 0, i, fuel + 1, hd, hf, α, k0 => by
    obtain rfl : i = n := by omega
    show ref18_Table_Learn_L0_s0 _ k0 (oldN L i : Int) (i : Int) c snl sn sf lnl i f m v p c' = _
    unfold ref18_Table_Learn_L0_s0
    rw [dec_f (Int.lt_irrefl _), cond_false]
  | d + 1, i, fuel + 1, hd, hf, α, k0 => by
    have hLn := hL.n
    have hlt : i < L.length := by omega
    have ho : oldN L i < L.length := by
      cases i with
      | zero => exact hlt
      | succ i => have := oldN_lt L (i + 1) (by omega); omega
    show ref18_Table_Learn_L0_s0 _ k0 (oldN L i : Int) (i : Int) c snl sn sf lnl n f m v p c' = _
    unfold ref18_Table_Learn_L0_s0
    rw [dec_t (by omega), cond_true, inb_t (by omega) (by omega), cond_true, inb_t (by omega) (by omega), cond_true, Int.toNat_natCast, Int.toNat_natCast, hL.seen hlt, hL.seen ho, i64_id (by omega) (by omega)]
    have hstep : oldN L (i + 1) = bif decide (L[i].seen < L[oldN L i].seen) then i else oldN L i := by
      show (bif decide ((L.getD i enz).seen < (L.getD (oldN L i) enz).seen) then i else oldN L i) = _
      rw [List.getD_eq_getElem?_getD, List.getElem?_eq_getElem hlt, List.getD_eq_getElem?_getD, List.getElem?_eq_getElem ho]
      rfl
    have ih := rold_loop hL hn c snl lnl sn sf m v p c' d (i + 1) fuel (by omega) (by omega) k0
    rw [hstep] at ih
    cases hx : decide (L[i].seen < L[oldN L i].seen) with
    | true => rw [hx, cond_true] at ih; rw [cond_true]; exact ih
    | false => rw [hx, cond_false] at ih; rw [cond_false]; exact ih
theorem rold_eq {n : Nat} {f : Nat → Nat → PV} {L : List En} (hL : EL n f L) (hn : n ≤ 1000000) (c : Int) (snl lnl : Bool) (sn : Nat) (sf : Nat → Nat → PV) (m v p c' : Int) {α : Type} (k0 : Int → Int → Bool → Nat → (Nat → Nat → PV) → Bool → Nat → (Nat → Nat → PV) → Int → Int → Int → Int → Option α) :
    ref18_Table_Learn_L0 c snl sn sf lnl n f m v p c' k0 = k0 (oldN L n : Int) c snl sn sf lnl n f m v p c' := by
  unfold ref18_Table_Learn_L0
  have h := rold_loop hL hn c snl lnl sn sf m v p c' n 0 18446744073709551616 (by omega) (by omega) k0
  rw [show (oldN L 0 : Int) = 0 from rfl] at h
  exact h
theorem rless_eq (e : En) (m v p c : Int) {α : Type} (k0 : Bool → Option α) : ref18_less e.mac e.vlan e.port e.seen m v p c k0 = k0 (kl e v m) := by
  unfold ref18_less ref18_less_T kl
  cases decide (e.vlan < v) with
  | true => rfl
  | false =>
    rw [cond_false]
    by_cases h : e.vlan = v
    · rw [h, beq_self_eq_true, dec_t rfl]; rfl
    · rw [dec_f h, beq_eq_false_iff_ne.2 h]; rfl
theorem rpos_step {L : List En} (hs : Srt L) (v m : Int) {i : Nat} (hi : i ≤ pos L v m) (hlt : i < L.length) : (kl L[i] v m = true ∧ i + 1 ≤ pos L v m) ∨ (kl L[i] v m = false ∧ i = pos L v m) := by
  have hc := cut_pos hs v m
  rcases Nat.lt_or_ge i (pos L v m) with h | h
  · exact .inl ⟨hc.lo i hlt h, h⟩
  · exact .inr ⟨hc.hi i hlt h, by omega⟩
theorem rless_loop {n1 : Nat} {f1 : Nat → Nat → PV} {L : List En} (hL : EL n1 f1 L) (hs : Srt L) (hn : n1 ≤ 1000000) (c : Int) (snl lnl : Bool) (sn n : Nat) (sf f : Nat → Nat → PV) (m v p c' : Int) : ∀ (d i fuel : Nat), i + d = n1 → d < fuel → i ≤ pos L v m → ∀ {α : Type} (k0 : Int → Int → Bool → Nat → (Nat → Nat → PV) → Bool → Nat → (Nat → Nat → PV) → Int → Int → Int → Int → Nat → (Nat → Nat → PV) → Option α),
    ref18_Table_Learn_L2_l0 k0 fuel (i : Int) c snl sn sf lnl n f m v p c' n1 f1 = k0 (pos L v m : Int) c snl sn sf lnl n f m v p c' n1 f1
  | 0, i, fuel + 1, hd, hf, hi, α, k0 => by
    have hLn := hL.n
    have hp := (cut_pos hs v m).le
    obtain rfl : i = n1 := by omega
    show ref18_Table_Learn_L2_s0 _ _ k0 (i : Int) c snl sn sf lnl n f m v p c' i f1 = _
    unfold ref18_Table_Learn_L2_s0
    rw [dec_f (Int.lt_irrefl _), cond_false, show pos L v m = i by omega]
  | d + 1, i, fuel + 1, hd, hf, hi, α, k0 => by
    have hLn := hL.n
    have hlt : i < L.length := by omega
    show ref18_Table_Learn_L2_s0 _ _ k0 (i : Int) c snl sn sf lnl n f m v p c' n1 f1 = _
    unfold ref18_Table_Learn_L2_s0
    rw [dec_t (by omega), cond_true, inb_t (by omega) (by omega), cond_true, Int.toNat_natCast, hL.mac hlt, hL.vlan hlt, hL.port hlt, hL.seen hlt, rless_eq, i64_id (by omega) (by omega)]
    rcases rpos_step hs v m hi hlt with ⟨h1, h2⟩ | ⟨h1, h2⟩
    · rw [h1, cond_true]
      exact rless_loop hL hs hn c snl lnl sn n sf f m v p c' d (i + 1) fuel (by omega) (by omega) h2 k0
    · rw [h1, cond_false, h2]
theorem rless1_loop {n : Nat} {f : Nat → Nat → PV} {L : List En} (hL : EL n f L) (hs : Srt L) (hn : n ≤ 1000000) (c : Int) (snl lnl : Bool) (sn : Nat) (sf : Nat → Nat → PV) (m v p c' : Int) : ∀ (d i fuel : Nat), i + d = n → d < fuel → i ≤ pos L v m → ∀ {α : Type} (k0 : Int → Int → Bool → Nat → (Nat → Nat → PV) → Bool → Nat → (Nat → Nat → PV) → Int → Int → Int → Int → Option α),
    ref18_Table_Learn_L2_v1_l0 k0 fuel (i : Int) c snl sn sf lnl n f m v p c' = k0 (pos L v m : Int) c snl sn sf lnl n f m v p c'
  | 0, i, fuel + 1, hd, hf, hi, α, k0 => by
    have hLn := hL.n
    have hp := (cut_pos hs v m).le
    obtain rfl : i = n := by omega
    show ref18_Table_Learn_L2_v1_s0 _ _ k0 (i : Int) c snl sn sf lnl i f m v p c' = _
    unfold ref18_Table_Learn_L2_v1_s0
    rw [dec_f (Int.lt_irrefl _), cond_false, show pos L v m = i by omega]
  | d + 1, i, fuel + 1, hd, hf, hi, α, k0 => by
    have hLn := hL.n
    have hlt : i < L.length := by omega
    show ref18_Table_Learn_L2_v1_s0 _ _ k0 (i : Int) c snl sn sf lnl n f m v p c' = _
    unfold ref18_Table_Learn_L2_v1_s0
    rw [dec_t (by omega), cond_true, inb_t (by omega) (by omega), cond_true, Int.toNat_natCast, hL.mac hlt, hL.vlan hlt, hL.port hlt, hL.seen hlt, rless_eq, i64_id (by omega) (by omega)]
    rcases rpos_step hs v m hi hlt with ⟨h1, h2⟩ | ⟨h1, h2⟩
    · rw [h1, cond_true]
      exact rless1_loop hL hs hn c snl lnl sn sf m v p c' d (i + 1) fuel (by omega) (by omega) h2 k0
    · rw [h1, cond_false, h2]
theorem rless_run {n1 : Nat} {f1 : Nat → Nat → PV} {L : List En} (hL : EL n1 f1 L) (hs : Srt L) (hn : n1 ≤ 1000000) (c : Int) (snl lnl : Bool) (sn n : Nat) (sf f : Nat → Nat → PV) (m v p c' : Int) {α : Type} (k0 : Int → Int → Bool → Nat → (Nat → Nat → PV) → Bool → Nat → (Nat → Nat → PV) → Int → Int → Int → Int → Nat → (Nat → Nat → PV) → Option α) :
    ref18_Table_Learn_L2 c snl sn sf lnl n f m v p c' n1 f1 k0 = k0 (pos L v m : Int) c snl sn sf lnl n f m v p c' n1 f1 := by
  unfold ref18_Table_Learn_L2
  exact rless_loop hL hs hn c snl lnl sn n sf f m v p c' n1 0 18446744073709551616 (by omega) (by omega) (Nat.zero_le _) k0
theorem rless1_run {n : Nat} {f : Nat → Nat → PV} {L : List En} (hL : EL n f L) (hs : Srt L) (hn : n ≤ 1000000) (c : Int) (snl lnl : Bool) (sn : Nat) (sf : Nat → Nat → PV) (m v p c' : Int) {α : Type} (k0 : Int → Int → Bool → Nat → (Nat → Nat → PV) → Bool → Nat → (Nat → Nat → PV) → Int → Int → Int → Int → Option α) :
    ref18_Table_Learn_L2_v1 c snl sn sf lnl n f m v p c' k0 = k0 (pos L v m : Int) c snl sn sf lnl n f m v p c' := by
  unfold ref18_Table_Learn_L2_v1
  exact rless1_loop hL hs hn c snl lnl sn sf m v p c' n 0 18446744073709551616 (by omega) (by omega) (Nat.zero_le _) k0
theorem el_put {n : Nat} {f : Nat → Nat → PV} {L : List En} (h : EL n f L) (i : Nat) (hi : i ≤ n) (m v p c : Int) : EL (((0 + (i : Int).toNat) + 1) + (n - (i : Int).toNat)) (e25 (i : Int) f m v p c) (putAt L i ⟨m, v, p, c⟩) := by
  unfold e25
  rw [catf_zero, Nat.zero_add, Int.toNat_natCast]
  have := ((h.take i hi).cat (EL.one ⟨m, v, p, c⟩)).cat (h.drop i)
  rw [List.append_assoc] at this
  exact this
theorem el_del {n : Nat} {f : Nat → Nat → PV} {L : List En} (h : EL n f L) (i : Nat) (hi : i < n) (hn : n ≤ 1000000) : EL ((0 + (i : Int).toNat) + (n - ((IntKind.i64.wrap ((i : Int) + 1)).toNat))) (e23 (i : Int) f) (L.eraseIdx i) := by
  unfold e23
  rw [catf_zero, Nat.zero_add, Int.toNat_natCast, i64_id (by omega) (by omega), List.eraseIdx_eq_take_drop_succ, show ((i : Int) + 1).toNat = i + 1 by omega]
  exact (h.take i (by omega)).cat (h.drop (i + 1))
theorem rlearn_no {sn : Nat} (hsn : sn ≤ 1000000) (sf : Nat → Nat → PV) {m v p : Int} (c : Int) (h : gd m v p = false ∨ ∃ r, stF sf v m sn = some r) (snl lnl : Bool) (n : Nat) (f : Nat → Nat → PV) {α : Type} (k0 k1 : Int → Bool → Nat → (Nat → Nat → PV) → Bool → Nat → (Nat → Nat → PV) → Option α) (k2 : Int → Bool → Nat → (Nat → Nat → PV) → Bool → Nat → (Nat → Nat → PV) → Nat → (Nat → Nat → PV) → Option α) :
    ref18_Table_Learn m v p c snl sn sf lnl n f k0 k1 k2 = k0 c snl sn sf lnl n f := by
  unfold ref18_Table_Learn ref18_Table_Learn_T ref09_Group ref09_Group_T
  unfold gd at h
  rw [show decide (v > 4094) = decide (v ≥ 4095) from decide_eq_decide.2 (by omega), show decide (p > 7) = decide (p ≥ 8) from decide_eq_decide.2 (by omega)]
  revert h
  cases (m == 0) with
  | true => intro _; rfl
  | false =>
  cases decide (m < 281474976710656) with
  | false => intro _; rfl
  | true =>
  cases ((bits .and .u64 (shrI .u64 m 40) 1) == 1) with
  | true => intro _; rfl
  | false =>
  cases decide (v < 1) with
  | true => intro _; rfl
  | false =>
  cases decide (v ≥ 4095) with
  | true => intro _; rfl
  | false =>
  cases decide (p < 0) with
  | true => intro _; rfl
  | false =>
  cases decide (p ≥ 8) with
  | true => intro _; rfl
  | false =>
  intro h
  rcases h with h | ⟨r, h⟩
  · cases h
  · simp only [Bool.not_true, cond_true, cond_false]
    exact rhas_yes hsn sf m v c snl lnl n f h _ _
theorem rlearn_start {n : Nat} {f : Nat → Nat → PV} {L : List En} (hL : EL n f L) (hs : Srt L) (hn : n ≤ 32) {sn : Nat} (hsn : sn ≤ 1000000) (sf : Nat → Nat → PV) {m v p : Int} (c : Int) (hg : gd m v p = true) (hS : stF sf v m sn = none) (snl lnl : Bool) {α : Type} (k0 k1 : Int → Bool → Nat → (Nat → Nat → PV) → Bool → Nat → (Nat → Nat → PV) → Option α) (k2 : Int → Bool → Nat → (Nat → Nat → PV) → Bool → Nat → (Nat → Nat → PV) → Nat → (Nat → Nat → PV) → Option α) :
    ref18_Table_Learn m v p c snl sn sf lnl n f k0 k1 k2 = bif hasK L v m then k1 c snl sn sf lnl n (e19 f (pos L v m : Int) m v p c)
      else bif decide ((n : Int) ≥ 32) then
     ref18_Table_Learn_L0 c snl sn sf lnl n f m v p c
      (fun r_27 r_28 r_29 r_30 r_31 r_32 r_33 r_34 r_35 r_36 r_37 r_38 => bif inb r_27 (r_33 + 1) then
       bif decide (0 ≤ r_27) then
        bif Nat.ble ((0 + r_27.toNat) * 32) bound then
         bif inb (r_33 : Int) (r_33 + 1) then
          bif (decide (0 ≤ IntKind.i64.wrap (r_27 + 1)) && decide (IntKind.i64.wrap (r_27 + 1) ≤ (r_33 : Int))) then
           bif Nat.ble (((0 + r_27.toNat) + (r_33 - ((IntKind.i64.wrap (r_27 + 1)).toNat))) * 32) bound then
            ref18_Table_Learn_L2 r_28 r_29 r_30 r_31 r_32 r_33 r_34 r_35 r_36 r_37 r_38 ((0 + r_27.toNat) + (r_33 - ((IntKind.i64.wrap (r_27 + 1)).toNat))) (e23 r_27 r_34)
             (fun r_39 r_40 r_41 r_42 r_43 r_44 r_45 r_46 r_47 r_48 r_49 r_50 r_51 r_52 => bif inb r_39 (r_51 + 1) then
              bif decide (0 ≤ r_39) then
               bif Nat.ble ((0 + r_39.toNat) * 32) bound then
                bif Nat.ble (((0 + r_39.toNat) + 1) * 32) bound then
                 bif inb (r_51 : Int) (r_51 + 1) then
                  bif (decide (0 ≤ r_39) && decide (r_39 ≤ (r_51 : Int))) then
                   bif Nat.ble ((((0 + r_39.toNat) + 1) + (r_51 - r_39.toNat)) * 32) bound then
                    k2 r_40 r_41 r_42 r_43 r_44 r_45 r_46 (((0 + r_39.toNat) + 1) + (r_51 - r_39.toNat)) (e25 r_39 r_52 r_47 r_48 r_49 r_50)
                   else none
                  else none
                 else none
                else none
               else none
              else none
             else none)
           else none
          else none
         else none
        else none
       else none
      else none)
    else ref18_Table_Learn_L2_v1 c snl sn sf lnl n f m v p c
     (fun r_27 r_28 r_29 r_30 r_31 r_32 r_33 r_34 r_35 r_36 r_37 r_38 => bif inb r_27 (r_33 + 1) then
      bif decide (0 ≤ r_27) then
       bif Nat.ble ((0 + r_27.toNat) * 32) bound then
        bif Nat.ble (((0 + r_27.toNat) + 1) * 32) bound then
         bif inb (r_33 : Int) (r_33 + 1) then
          bif (decide (0 ≤ r_27) && decide (r_27 ≤ (r_33 : Int))) then
           bif Nat.ble ((((0 + r_27.toNat) + 1) + (r_33 - r_27.toNat)) * 32) bound then
            k2 r_28 r_29 r_30 r_31 r_32 r_33 r_34 (((0 + r_27.toNat) + 1) + (r_33 - r_27.toNat)) (e25 r_27 r_34 r_35 r_36 r_37 r_38)
           else none
          else none
         else none
        else none
       else none
      else none
     else none) := by
  have hLn := hL.n
  unfold gd at hg
  simp only [Bool.and_eq_true, Bool.not_eq_true'] at hg
  obtain ⟨g1, g2, g3, g4, g5, g6, g7⟩ := hg
  rw [show decide (v ≥ 4095) = decide (v > 4094) from decide_eq_decide.2 (by omega)] at g5
  rw [show decide (p ≥ 8) = decide (p > 7) from decide_eq_decide.2 (by omega)] at g7
  unfold ref18_Table_Learn ref18_Table_Learn_T ref09_Group ref09_Group_T
  rw [g1, g2, g3, g4, g5, g6, g7]
  rw [Bool.not_true, cond_false, cond_false, cond_true]
  dsimp only
  rw [cond_false, cond_false, cond_false, cond_false, cond_false]
  rw [rhas_no hsn sf m v c snl lnl n f hS, rat_eq hL hs (by omega)]
  cases hh : hasK L v m with
  | true =>
    obtain ⟨hp, hk⟩ := has_pos hs hh
    rw [cond_true, cond_true, dec_t (by omega), cond_true, inb_t (by omega) (by omega), cond_true]
  | false =>
    rw [cond_false, cond_false, show decide ((-1 : Int) ≥ 0) = false from rfl, cond_false]
theorem rlearn_one {n : Nat} {f : Nat → Nat → PV} {L : List En} (hL : EL n f L) (hs : Srt L) (hn : n ≤ 32) {sn : Nat} (hsn : sn ≤ 1000000) (sf : Nat → Nat → PV) {m v p : Int} (c : Int) (hg : gd m v p = true) (hS : stF sf v m sn = none) (snl lnl : Bool) : ∃ nl' n' f', EL n' f' (learnL L ⟨m, v, p, c⟩) ∧
    ∀ {α : Type} (k0 kk : Int → Bool → Nat → (Nat → Nat → PV) → Bool → Nat → (Nat → Nat → PV) → Option α), ref18_Table_Learn m v p c snl sn sf lnl n f k0 kk (fun c1 s1 s2 s3 _ _ _ n1 f1 => kk c1 s1 s2 s3 false n1 f1) = kk c snl sn sf nl' n' f' := by
  have hLn := hL.n
  subst hLn
  have hb : ∀ k : Nat, k ≤ 100 → Nat.ble (k * 32) bound = true := fun k hk => bnd32 (by omega)
  unfold learnL
  cases hh : hasK L v m with
  | true =>
    rw [cond_true]
    obtain ⟨hp, hk⟩ := has_pos hs hh
    refine ⟨lnl, L.length, _, hL.set (pos L v m) ⟨m, v, p, c⟩, fun {α} k0 kk => ?_⟩
    rw [rlearn_start hL hs hn hsn sf c hg hS snl lnl, hh, cond_true]
    unfold e19
    rw [Int.toNat_natCast]
    rfl
  | false =>
    rw [cond_false]
    by_cases h32 : 32 ≤ L.length
    · rw [decide_eq_true h32, cond_true]
      have ho := oldN_lt L L.length (by omega)
      have hD := el_del hL (oldN L L.length) (by omega) (by omega)
      have hsD : Srt (L.eraseIdx (oldN L L.length)) := hs.sublist (List.eraseIdx_sublist _ _)
      have hDn := hD.n
      have hdl : (L.eraseIdx (oldN L L.length)).length ≤ 32 := by rw [List.length_eraseIdx]; split <;> omega
      have hpD := (cut_pos hsD v m).le
      refine ⟨false, _, _, el_put hD (pos (L.eraseIdx (oldN L L.length)) v m) (by omega) m v p c, fun {α} k0 kk => ?_⟩
      have hw : IntKind.i64.wrap ((oldN L L.length : Int) + 1) = (oldN L L.length : Int) + 1 := i64_id (by omega) (by omega)
      rw [rlearn_start hL hs hn hsn sf c hg hS snl lnl, hh, cond_false, dec_t (show (L.length : Int) ≥ 32 by omega), cond_true, rold_eq hL (by omega) c snl lnl sn sf m v p c]
      rw [inb_t (by omega) (by omega), cond_true, dec_t (by omega), cond_true, hb _ (by omega), cond_true, inb_t (by omega) (by omega), cond_true, dec_t (by rw [hw]; omega), dec_t (by rw [hw]; omega), Bool.and_true, cond_true, hb _ (by omega), cond_true]
      rw [rless_run hD hsD (by omega) c snl lnl sn L.length sf f m v p c]
      rw [inb_t (by omega) (by omega), cond_true, dec_t (by omega), cond_true, hb _ (by omega), cond_true, hb _ (by omega), cond_true, inb_t (by omega) (by omega), cond_true, dec_t (by omega), Bool.true_and, cond_true, hb _ (by omega), cond_true]
    · rw [decide_eq_false h32, cond_false]
      have hp := (cut_pos hs v m).le
      refine ⟨false, _, _, el_put hL (pos L v m) (by omega) m v p c, fun {α} k0 kk => ?_⟩
      rw [rlearn_start hL hs hn hsn sf c hg hS snl lnl, hh, cond_false, dec_f (show ¬ (L.length : Int) ≥ 32 by omega), cond_false, rless1_run hL hs (by omega) c snl lnl sn sf m v p c]
      rw [inb_t (by omega) (by omega), cond_true, dec_t (by omega), cond_true, hb _ (by omega), cond_true, hb _ (by omega), cond_true, inb_t (by omega) (by omega), cond_true, dec_t (by omega), Bool.true_and, cond_true, hb _ (by omega), cond_true]
theorem same_loop {L : List En} {ln : Nat} {lf : Nat → Nat → PV} (hR : EL ln lf L) {cn : Nat} {cf : Nat → Nat → PV} (hC : EL cn cf L) (hn : L.length ≤ 1000000) (c c' : Int) (M : MapL) (nl : Bool) (n : Nat) (f : Nat → Nat → PV) (snl : Bool) (sn : Nat) (sf : Nat → Nat → PV) (lnl cnl : Bool) : ∀ (d i fuel : Nat), i + d = L.length → d < fuel → ∀ {α : Type} (k0 k1 : Int → Int → MapL → Bool → Nat → (Nat → Nat → PV) → Bool → Nat → (Nat → Nat → PV) → Bool → Nat → (Nat → Nat → PV) → Option α),
    law18_Same_L0_v3_l0 k0 k1 fuel (i : Int) c c' M nl n f snl sn sf lnl ln lf cnl cn cf = k1 c c' M nl n f snl sn sf lnl ln lf
  | 0, i, fuel + 1, hd, hf, α, k0, k1 => by
    have hRn := hR.n
    have hCn := hC.n
    show law18_Same_L0_v3_s0 _ k0 k1 (i : Int) c c' M nl n f snl sn sf lnl ln lf cnl cn cf = _
    unfold law18_Same_L0_v3_s0
    rw [dec_f (by omega), cond_false]
  | d + 1, i, fuel + 1, hd, hf, α, k0, k1 => by
    have hRn := hR.n
    have hCn := hC.n
    have hlt : i < L.length := by omega
    have e : e27 cf (i : Int) lf = false := by
      unfold e27
      rw [Int.toNat_natCast, hR.mac hlt, hR.vlan hlt, hR.port hlt, hR.seen hlt, hC.mac hlt, hC.vlan hlt, hC.port hlt, hC.seen hlt, beq_self_eq_true, beq_self_eq_true, beq_self_eq_true, beq_self_eq_true]
      rfl
    show law18_Same_L0_v3_s0 _ k0 k1 (i : Int) c c' M nl n f snl sn sf lnl ln lf cnl cn cf = _
    unfold law18_Same_L0_v3_s0
    rw [dec_t (by omega), cond_true, inb_t (by omega) (by omega), cond_true, cond_true, cond_true, cond_true, inb_t (by omega) (by omega), cond_true, e, cond_false, i64_id (by omega) (by omega)]
    exact same_loop hR hC hn c c' M nl n f snl sn sf lnl cnl d (i + 1) fuel (by omega) (by omega) k0 k1
theorem same_eq {L : List En} {n : Nat} {f : Nat → Nat → PV} (hL : EL n f L) {ln : Nat} {lf : Nat → Nat → PV} (hR : EL ln lf L) (hn : L.length ≤ 1000000) (c : Int) (M : MapL) {nl : Bool} (hnl : nl = true → n = 0) (snl : Bool) (sn : Nat) (sf : Nat → Nat → PV) (lnl : Bool) {α : Type} (k0 k1 : Int → Int → MapL → Bool → Nat → (Nat → Nat → PV) → Bool → Nat → (Nat → Nat → PV) → Bool → Nat → (Nat → Nat → PV) → Option α) :
    law18_Same_v3 c c M nl n f snl sn sf lnl ln lf k0 k1 = k1 c c M nl n f snl sn sf lnl ln lf := by
  have hLn := hL.n
  have hRn := hR.n
  obtain ⟨cnl, cf, hC, hc⟩ := clone_eq hL (by omega) nl hnl
  unfold law18_Same_v3 law18_Same_v3_T
  rw [hc]
  have e9 : (((n : Nat) : Int) != (ln : Int)) = false := by rw [show n = ln by omega]; exact bne_self_eq_false _
  rw [e9, cond_false, bne_self_eq_false, cond_false]
  unfold law18_Same_L0_v3
  exact same_loop hR hC hn c c M nl n f snl sn sf lnl cnl L.length 0 18446744073709551616 (by omega) (by omega) k0 k1
end Go.Proofs.Ytijabmpcicddbaa.PlaneLearns
