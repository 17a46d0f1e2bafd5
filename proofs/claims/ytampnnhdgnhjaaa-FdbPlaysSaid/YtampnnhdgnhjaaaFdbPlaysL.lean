/- Lemmas for FdbPlays: what its functions come to. -/
import Derived.Test.YtampnnhdgnhjaaaFdbPlaysU
import Derived.Test.YtampnnhdgnhjaaaVe37
set_option linter.unusedVariables false
set_option linter.unusedSimpArgs false
set_option maxHeartbeats 1000000
namespace Go.Proofs.Ytampnnhdgnhjaaa.FdbPlays
open Go.Ve
theorem cmpi_eq {α : Type} (a b : Int) (k0 : Int → Option α) : cmp_Compare_int a b k0 = k0 (cmpI a b) := by
  unfold cmp_Compare_int cmp_Compare_int_T cmpI
  rw [bne_self_eq_false a, bne_self_eq_false b, cond_false, cond_false]
  cases decide (a < b) <;> cases decide (a > b) <;> rfl
theorem cmpu_eq {α : Type} (a b : Int) (k0 : Int → Option α) : cmp_Compare_uint64 a b k0 = k0 (cmpI a b) := by
  unfold cmp_Compare_uint64 cmp_Compare_uint64_T cmpI
  rw [bne_self_eq_false a, bne_self_eq_false b, cond_false, cond_false]
  cases decide (a < b) <;> cases decide (a > b) <;> rfl
theorem or_step {α : Type} (fuel : Nat) (i : Int) (nl : Bool) (f : Nat → Nat → PV) (k0 : Int → Bool → Nat → (Nat → Nat → PV) → Option α) (k1 : Bool → Nat → (Nat → Nat → PV) → Option α) :
    cmp_Or_int_L0_l0 k0 k1 (fuel + 1) 2 i nl 2 f = bif decide (i < 2) then bif inb i 2 then bif ((numOf (f i.toNat 0)) != 0) then k0 (numOf (f i.toNat 0)) nl 2 f else cmp_Or_int_L0_l0 k0 k1 fuel 2 (IntKind.i64.wrap (i + 1)) nl 2 f else none else k1 nl 2 f := rfl
theorem or_loop {α : Type} (fuel : Nat) (h : 2 < fuel) (x y : Int) (k0 : Int → Bool → Nat → (Nat → Nat → PV) → Option α) (k1 : Bool → Nat → (Nat → Nat → PV) → Option α) :
    cmp_Or_int_L0_l0 k0 k1 fuel 2 0 false 2 (rowOf 1 [.val (.int .i64 x), .val (.int .i64 y)]) = bif x != 0 then k0 x false 2 (rowOf 1 [.val (.int .i64 x), .val (.int .i64 y)]) else bif y != 0 then k0 y false 2 (rowOf 1 [.val (.int .i64 x), .val (.int .i64 y)]) else k1 false 2 (rowOf 1 [.val (.int .i64 x), .val (.int .i64 y)]) := by
  obtain ⟨g, rfl⟩ : ∃ g, fuel = g + 1 + 1 + 1 := ⟨fuel - 3, by omega⟩
  rw [or_step, or_step, or_step]
  rfl
theorem or_eq {α : Type} (x y : Int) (k0 : Int → Bool → Nat → (Nat → Nat → PV) → Option α) :
    cmp_Or_int false 2 (rowOf 1 [.val (.int .i64 x), .val (.int .i64 y)]) k0 = k0 (orI x y) false 2 (rowOf 1 [.val (.int .i64 x), .val (.int .i64 y)]) := by
  unfold cmp_Or_int cmp_Or_int_T cmp_Or_int_L0
  have := or_loop (α := α) 18446744073709551616 (by decide) x y (fun r_4 r_5 r_6 r_7 => k0 r_4 r_5 r_6 r_7) (fun r_4 r_5 r_6 => k0 0 r_4 r_5 r_6)
  refine Eq.trans this ?_
  unfold orI
  by_cases hx : x = 0
  · subst hx
    by_cases hy : y = 0
    · subst hy; rfl
    · have : (y != 0) = true := by simpa using hy
      rw [this]; rfl
  · have : (x != 0) = true := by simpa using hx
    rw [this]; rfl
theorem bs_loop {n : Nat} {f : Nat → Nat → PV} {L : List En} (hL : EL n f L) (hs : Srt L) (hn : n ≤ 1000000) (v m : Int) (nl : Bool) : ∀ (fuel i j : Nat), i ≤ pos L v m → pos L v m ≤ j → j ≤ n → j - i < fuel →
    ∀ {α : Type} (k0 : Int → Int → Bool → Nat → (Nat → Nat → PV) → Int → Int → Option α), slices_BinarySearchFunc_fdb_key_c99_L0_l0 k0 fuel (n : Int) (i : Int) (j : Int) nl n f v m = k0 (n : Int) (pos L v m : Int) nl n f v m
  | 0, i, j, h1, h2, h3, h4, α, k0 => by omega
  | fuel + 1, i, j, h1, h2, h3, h4, α, k0 => by
    have hc := cut_pos hs v m
    have hLn := hL.n
    show slices_BinarySearchFunc_fdb_key_c99_L0_s0 _ _ _ _ k0 (n : Int) (i : Int) (j : Int) nl n f v m = _
    unfold slices_BinarySearchFunc_fdb_key_c99_L0_s0
    by_cases hij : i < j
    · have hh := half i j (by omega)
      have hlt : (i + j) / 2 < L.length := by omega
      rw [dec_t (show (i : Int) < (j : Int) by omega), cond_true, hh, inb_t (by omega) (by omega), cond_true]
      have e7' : e7 f (i : Int) (j : Int) = L[(i + j) / 2].vlan := by unfold e7; rw [hh, Int.toNat_natCast, hL.vlan hlt]
      have e6' : e6 f (i : Int) (j : Int) = L[(i + j) / 2].mac := by unfold e6; rw [hh, Int.toNat_natCast, hL.mac hlt]
      have e10' : e10 (i : Int) (j : Int) = (((i + j) / 2 + 1 : Nat) : Int) := by unfold e10; rw [hh, i64_id (by omega) (by omega)]; rfl
      rw [cmpi_eq, cmpu_eq, or_eq, e7', e6', e10', key_lt]
      cases hk : kl L[(i + j) / 2] v m with
      | true =>
        rw [cond_true]
        refine bs_loop hL hs hn v m nl fuel ((i + j) / 2 + 1) j ?_ h2 h3 (by omega) k0
        rcases Nat.lt_or_ge ((i + j) / 2) (pos L v m) with h | h
        · exact h
        · rw [hc.hi _ hlt h] at hk; cases hk
      | false =>
        rw [cond_false]
        refine bs_loop hL hs hn v m nl fuel i ((i + j) / 2) h1 ?_ (by omega) (by omega) k0
        rcases Nat.lt_or_ge ((i + j) / 2) (pos L v m) with h | h
        · rw [hc.lo _ hlt h] at hk; cases hk
        · exact h
    · rw [dec_f (show ¬ (i : Int) < (j : Int) by omega), cond_false, show i = pos L v m by omega]
theorem find_lt {n : Nat} {f : Nat → Nat → PV} {L : List En} (hL : EL n f L) (hs : Srt L) (hn : n ≤ 1000000) (v m c : Int) (M : MapL) (nl : Bool) (hp : pos L v m < L.length) {α : Type} (k0 : Int → Bool → Int → MapL → Bool → Nat → (Nat → Nat → PV) → Option α) (k1 : Int → Int → MapL → Bool → Nat → (Nat → Nat → PV) → Option α) :
    fdb_Table_find v m c M nl n f k0 k1 = k0 (pos L v m : Int) (ke L[pos L v m] v m) c M nl n f := by
  have hLn := hL.n
  unfold fdb_Table_find fdb_Table_find_T slices_BinarySearchFunc_fdb_key_c99 slices_BinarySearchFunc_fdb_key_c99_T slices_BinarySearchFunc_fdb_key_c99_L0
  refine Eq.trans (bs_loop hL hs hn v m nl 18446744073709551616 0 n (Nat.zero_le _) (by omega) (Nat.le_refl _) (by omega) _) ?_
  rw [dec_t (show (pos L v m : Int) < (n : Int) by omega), cond_true, inb_t (by omega) (by omega), cond_true, cmpi_eq, cmpu_eq, or_eq, Int.toNat_natCast, hL.vlan hp, hL.mac hp, key_eq]
theorem find_ge {n : Nat} {f : Nat → Nat → PV} {L : List En} (hL : EL n f L) (hs : Srt L) (hn : n ≤ 1000000) (v m c : Int) (M : MapL) (nl : Bool) (hp : pos L v m = L.length) {α : Type} (k0 : Int → Bool → Int → MapL → Bool → Nat → (Nat → Nat → PV) → Option α) (k1 : Int → Int → MapL → Bool → Nat → (Nat → Nat → PV) → Option α) :
    fdb_Table_find v m c M nl n f k0 k1 = k1 (pos L v m : Int) c M nl n f := by
  have hLn := hL.n
  unfold fdb_Table_find fdb_Table_find_T slices_BinarySearchFunc_fdb_key_c99 slices_BinarySearchFunc_fdb_key_c99_T slices_BinarySearchFunc_fdb_key_c99_L0
  refine Eq.trans (bs_loop hL hs hn v m nl 18446744073709551616 0 n (Nat.zero_le _) (by omega) (Nat.le_refl _) (by omega) _) ?_
  rw [dec_f (show ¬ (pos L v m : Int) < (n : Int) by omega), cond_false]
theorem find_hit {n : Nat} {f : Nat → Nat → PV} {L : List En} (hL : EL n f L) (hs : Srt L) (hn : n ≤ 1000000) (v m c : Int) (M : MapL) (nl : Bool) (h : hasK L v m = true) {α : Type} (k0 : Int → Bool → Int → MapL → Bool → Nat → (Nat → Nat → PV) → Option α) (k1 : Int → Int → MapL → Bool → Nat → (Nat → Nat → PV) → Option α) :
    fdb_Table_find v m c M nl n f k0 k1 = k0 (pos L v m : Int) true c M nl n f := by
  obtain ⟨hp, hk⟩ := has_pos hs h
  rw [find_lt hL hs hn v m c M nl hp, ke_iff.2 hk]
theorem find_miss {n : Nat} {f : Nat → Nat → PV} {L : List En} (hL : EL n f L) (hs : Srt L) (hn : n ≤ 1000000) (v m c : Int) (M : MapL) (nl : Bool) (h : hasK L v m = false) :
    (∀ {α : Type} (k0 : Int → Bool → Int → MapL → Bool → Nat → (Nat → Nat → PV) → Option α) (k1 : Int → Int → MapL → Bool → Nat → (Nat → Nat → PV) → Option α), fdb_Table_find v m c M nl n f k0 k1 = k0 (pos L v m : Int) false c M nl n f) ∨
    (∀ {α : Type} (k0 : Int → Bool → Int → MapL → Bool → Nat → (Nat → Nat → PV) → Option α) (k1 : Int → Int → MapL → Bool → Nat → (Nat → Nat → PV) → Option α), fdb_Table_find v m c M nl n f k0 k1 = k1 (pos L v m : Int) c M nl n f) := by
  rcases Nat.lt_or_ge (pos L v m) L.length with hp | hp
  · left
    intro α k0 k1
    have : ke L[pos L v m] v m = false := by
      cases hk : ke L[pos L v m] v m with
      | false => rfl
      | true => rw [pos_has hp (ke_iff.1 hk)] at h; cases h
    rw [find_lt hL hs hn v m c M nl hp, this]
  · right
    intro α k0 k1
    exact find_ge hL hs hn v m c M nl (Nat.le_antisymm (cut_pos hs v m).le hp) k0 k1
theorem min_loop {n : Nat} {f : Nat → Nat → PV} {L : List En} (hL : EL n f L) (hs : Srt L) (hn : n ≤ 1000000) (nl : Bool) : ∀ (d i : Nat) (fuel : Nat) (ho : oldN L i < L.length), i + d = n → 0 < i → d < fuel →
    ∀ {α : Type} (k0 : Bool → Nat → (Nat → Nat → PV) → Int → Int → Int → Int → Option α), slices_MinFunc_fdb_Entry_c79_L0_l0 k0 fuel (i : Int) nl n f L[oldN L i].mac L[oldN L i].vlan L[oldN L i].port L[oldN L i].seen = k0 nl n f (L.getD (oldN L n) enz).mac (L.getD (oldN L n) enz).vlan (L.getD (oldN L n) enz).port (L.getD (oldN L n) enz).seen
  | 0, i, fuel + 1, ho, hd, hi, hf, α, k0 => by
    obtain rfl : i = n := by omega
    show slices_MinFunc_fdb_Entry_c79_L0_s0 _ _ _ _ k0 (i : Int) nl i f _ _ _ _ = _
    unfold slices_MinFunc_fdb_Entry_c79_L0_s0
    rw [dec_f (Int.lt_irrefl _), cond_false, List.getD_eq_getElem?_getD, List.getElem?_eq_getElem ho]
    rfl
  | d + 1, i, fuel + 1, ho, hd, hi, hf, α, k0 => by
    have hLn := hL.n
    have hlt : i < L.length := by omega
    have hol := oldN_lt L i hi
    show slices_MinFunc_fdb_Entry_c79_L0_s0 _ _ _ _ k0 (i : Int) nl n f _ _ _ _ = _
    unfold slices_MinFunc_fdb_Entry_c79_L0_s0
    rw [dec_t (show (i : Int) < (n : Int) by omega), cond_true, inb_t (by omega) (by omega), cond_true, cmpi_eq, cmpi_eq, cmpu_eq, or_eq, or_eq, Int.toNat_natCast, hL.seen hlt, hL.vlan hlt, hL.mac hlt, hL.port hlt, i64_id (by omega) (by omega)]
    have ho2 := hs.at hlt hol
    rw [old_lt L[i] L[oldN L i] ho2]
    have hstep : oldN L (i + 1) = bif decide (L[i].seen < L[oldN L i].seen) then i else oldN L i := by
      show (bif decide ((L.getD i enz).seen < (L.getD (oldN L i) enz).seen) then i else oldN L i) = _
      rw [List.getD_eq_getElem?_getD, List.getElem?_eq_getElem hlt, List.getD_eq_getElem?_getD, List.getElem?_eq_getElem ho]
      rfl
    cases hx : decide (L[i].seen < L[oldN L i].seen) with
    | true =>
      rw [hx, cond_true] at hstep
      rw [cond_true, cond_true]
      have := min_loop hL hs hn nl d (i + 1) fuel (by rw [hstep]; exact hlt) (by omega) (by omega) (by omega) k0
      simp only [hstep] at this
      exact this
    | false =>
      rw [hx, cond_false] at hstep
      rw [cond_false]
      have := min_loop hL hs hn nl d (i + 1) fuel (by rw [hstep]; exact ho) (by omega) (by omega) (by omega) k0
      simp only [hstep] at this
      exact this
theorem min_eq {n : Nat} {f : Nat → Nat → PV} {L : List En} (hL : EL n f L) (hs : Srt L) (hn : n ≤ 1000000) (nl : Bool) (h0 : 0 < n) {α : Type} (k0 : Bool → Nat → (Nat → Nat → PV) → Int → Int → Int → Int → Option α) :
    slices_MinFunc_fdb_Entry_c79_L0 nl n f (numOf (f 0 0)) (numOf (f 0 1)) (numOf (f 0 2)) (numOf (f 0 3)) k0 = k0 nl n f (L.getD (oldN L n) enz).mac (L.getD (oldN L n) enz).vlan (L.getD (oldN L n) enz).port (L.getD (oldN L n) enz).seen := by
  have hLn := hL.n
  have h1 : 0 < L.length := by omega
  have ho : oldN L 1 = 0 := by
    show (bif decide ((L.getD 0 enz).seen < (L.getD 0 enz).seen) then 0 else 0) = 0
    cases decide ((L.getD 0 enz).seen < (L.getD 0 enz).seen) <;> rfl
  rw [hL.mac h1, hL.vlan h1, hL.port h1, hL.seen h1]
  unfold slices_MinFunc_fdb_Entry_c79_L0
  have := min_loop hL hs hn nl (n - 1) 1 18446744073709551616 (by rw [ho]; exact h1) (by omega) (by decide) (by omega) k0
  simp only [ho] at this
  exact this
theorem del_eq {n : Nat} {f : Nat → Nat → PV} {L : List En} (hL : EL n f L) (hn : n ≤ 1000000) (nl : Bool) (i : Nat) (hi : i < n) : ∃ n' f', EL n' f' (L.eraseIdx i) ∧ n' ≤ n ∧
    ∀ {α : Type} (k0 k1 : Bool → Nat → (Nat → Nat → PV) → Option α), slices_Delete_fdb_Entry (i : Int) (((i + 1 : Nat) : Nat) : Int) nl n f k0 k1 = k1 nl n' f' := by
  have h := hL.erase i hi
  refine ⟨_, _, h.clr (((i + (n - (i + 1)) : Nat) : Int).toNat) (((n : Int).toNat) - (((i + (n - (i + 1)) : Nat) : Int).toNat)) [.int .u64 0, .int .i64 0, .int .i64 0, .int .i64 0] (by omega), by omega, fun {α} k0 k1 => ?_⟩
  unfold slices_Delete_fdb_Entry slices_Delete_fdb_Entry_T
  have b1 : Nat.ble (i + (n - (i + 1))) n = true := ble_true (by omega)
  have b2 : Nat.ble ((i + (n - (i + 1))) * 32) bound = true := bnd32 (by omega)
  have e1 : ((i : Int) == ((i + 1 : Nat) : Int)) = false := by
    cases hh : ((i : Int) == ((i + 1 : Nat) : Int)) with
    | false => rfl
    | true => have := eq_of_beq hh; omega
  simp only [inb_t (show (0 : Int) ≤ (n : Int) by omega) (show (n : Int) < ((n + 1 : Nat) : Int) by omega), inb_t (show (0 : Int) ≤ ((i + 1 : Nat) : Int) by omega) (show ((i + 1 : Nat) : Int) < ((n + 1 : Nat) : Int) by omega),
    dec_t (show (0 : Int) ≤ (i : Int) by omega), dec_t (show (i : Int) ≤ ((i + 1 : Nat) : Int) by omega), e1, inb_t (show (0 : Int) ≤ (i : Int) by omega) (show (i : Int) < ((n + 1 : Nat) : Int) by omega),
    dec_t (show (0 : Int) ≤ ((i + 1 : Nat) : Int) by omega), dec_t (show ((i + 1 : Nat) : Int) ≤ (n : Int) by omega), Bool.and_true, cond_true, cond_false, Int.toNat_natCast, b1, b2,
    dec_t (show (0 : Int) ≤ ((i + (n - (i + 1)) : Nat) : Int) by omega), dec_t (show ((i + (n - (i + 1)) : Nat) : Int) ≤ (n : Int) by omega), inb_t (show (0 : Int) ≤ ((i + (n - (i + 1)) : Nat) : Int) by omega) (show ((i + (n - (i + 1)) : Nat) : Int) < ((n + 1 : Nat) : Int) by omega)]
  rfl
theorem el_ins {n : Nat} {f : Nat → Nat → PV} {L : List En} (h : EL n f L) (i : Nat) (hi : i ≤ n) (e : En) : EL (n + 1) (insf i f (rowOf 4 (ecells e))) (putAt L i e) := by
  have hn := h.n
  show EL (n + 1) _ (L.take i ++ e :: L.drop i)
  have hlen : (L.take i ++ e :: L.drop i).length = L.length + 1 := length_putAt
  refine ⟨by rw [hlen, hn], fun j hj c hc => ?_⟩
  rw [hlen] at hj
  unfold insf
  by_cases h1 : j < i
  · rw [blt_t' h1, cond_true, List.getElem_append_left (by rw [List.length_take]; omega), List.getElem_take]
    exact h.r j (by omega) c hc
  · rw [blt_f' h1, cond_false, List.getElem_append_right (by rw [List.length_take]; omega)]
    by_cases h2 : j = i
    · subst h2
      rw [beq_t', cond_true, rowOf_ecells e c hc]
      simp only [List.length_take, show min j L.length = j by omega, Nat.sub_self]
      rfl
    · rw [beq_f' h2, cond_false]
      obtain ⟨k, hk⟩ : ∃ k, j = i + 1 + k := ⟨j - i - 1, by omega⟩
      subst hk
      simp only [List.length_take, show min i L.length = i by omega, show i + 1 + k - i = k + 1 by omega, List.getElem_cons_succ, List.getElem_drop]
      rw [show i + 1 + k - 1 = i + k by omega]
      exact h.r (i + k) (by omega) c hc
def gd (m v p : Int) : Bool := !(m == 0) && (decide (m < 281474976710656) && (!((bits .and .u64 (shrI .u64 m 40) 1) == 1) && (!(decide (v < 1)) && (!(decide (v ≥ 4095)) && (!(decide (p < 0)) && !(decide (p ≥ 8)))))))
theorem gd_small {m v p : Int} (h0 : 0 < m) (h1 : m < 1099511627776) (h2 : 1 ≤ v) (h3 : v < 4095) (h4 : 0 ≤ p) (h5 : p < 8) : gd m v p = true := by
  have e : shrI .u64 m 40 = m / 1099511627776 := shr_div .u64 m 40 (by decide)
  have e0 : m / 1099511627776 = 0 := by omega
  have em : (m == 0) = false := by
    cases hh : (m == 0) with
    | false => rfl
    | true => have := eq_of_beq hh; omega
  unfold gd
  rw [e, e0, em, dec_t (by omega), dec_f (by omega), dec_f (by omega), dec_f (by omega), dec_f (by omega)]
  rfl
theorem learn_no {m v p c : Int} {M : MapL} (hm : 0 ≤ m) (h : gd m v p = false ∨ mhas M [.val (.int .i64 v), .val (.int .u64 m)] = true) (nl : Bool) (n : Nat) (f : Nat → Nat → PV) {α : Type} (k0 : Int → MapL → Bool → Nat → (Nat → Nat → PV) → Option α) (k1 : Int → MapL → Bool → Nat → (Nat → Nat → PV) → Option α) (k2 : Int → MapL → Nat → (Nat → Nat → PV) → Option α) :
    fdb_Table_Learn m v p c M nl n f k0 k1 k2 = k0 c M nl n f := by
  unfold fdb_Table_Learn fdb_Table_Learn_T mac_Group mac_Group_T
  unfold gd at h
  rw [shr48 hm]
  revert h
  cases (m == 0) with
  | true => intro _; rfl
  | false =>
  cases decide (m < 281474976710656) with
  | false => intro _; rfl
  | true =>
  cases ((bits .and .u64 (shrI .u64 m 40) 1) == 1) with
  | true => intro _; rfl
  | false =>
  cases decide (v < 1) with
  | true => intro _; rfl
  | false =>
  cases decide (v ≥ 4095) with
  | true => intro _; rfl
  | false =>
  cases decide (p < 0) with
  | true => intro _; rfl
  | false =>
  cases decide (p ≥ 8) with
  | true => intro _; rfl
  | false =>
  intro h
  rcases h with h | h
  · cases h
  · simp only [Bool.not_true, cond_true, cond_false, h]
theorem learn_ins {n : Nat} {f : Nat → Nat → PV} {L : List En} (hL : EL n f L) (hs : Srt L) (hn : n ≤ 100000) (m v p c : Int) (M : MapL) (nl : Bool) (h : hasK L v m = false) : ∃ n' f', EL n' f' (putAt L (pos L v m) ⟨m, v, p, c⟩) ∧
    ∀ {α : Type} (k2 : Int → MapL → Nat → (Nat → Nat → PV) → Option α), fdb_Table_find v m c M nl n f
     (fun r_17 r_18 r_19 r_20 r_21 r_22 r_23 => bif (inb r_17 (r_22 + 1) && Nat.ble ((r_22 + 1) * 32) bound) then
      k2 r_19 r_20 (r_22 + 1) (insf r_17.toNat (r_23) (e14 m v p c))
     else none)
     (fun r_17 r_18 r_19 r_20 r_21 r_22 => bif (inb r_17 (r_21 + 1) && Nat.ble ((r_21 + 1) * 32) bound) then
      k2 r_18 r_19 (r_21 + 1) (insf r_17.toNat (r_22) (e14 m v p c))
     else none) = k2 c M n' f' := by
  have hLn := hL.n
  have hp := (cut_pos hs v m).le
  refine ⟨_, _, el_ins hL (pos L v m) (by omega) ⟨m, v, p, c⟩, fun {α} k2 => ?_⟩
  have hb : (inb (pos L v m : Int) (n + 1) && Nat.ble ((n + 1) * 32) bound) = true := by rw [inb_t (by omega) (by omega), bnd32 (by omega)]; rfl
  rcases find_miss hL hs (by omega) v m c M nl h with hf | hf
  · rw [hf, hb, cond_true, Int.toNat_natCast]; rfl
  · rw [hf, hb, cond_true, Int.toNat_natCast]; rfl
theorem learn_yes {n : Nat} {f : Nat → Nat → PV} {L : List En} (hL : EL n f L) (hs : Srt L) (hn : n ≤ 32) {m v p : Int} (c : Int) {M : MapL} (hm : 0 ≤ m) (hg : gd m v p = true) (hM : mhas M [.val (.int .i64 v), .val (.int .u64 m)] = false) (nl : Bool) (hnl : nl = true → n = 0) : ∃ nl' n' f', EL n' f' (learnL L ⟨m, v, p, c⟩) ∧ (nl' = true → n' = 0) ∧
    ((∀ {α : Type} (k0 : Int → MapL → Bool → Nat → (Nat → Nat → PV) → Option α) (k1 : Int → MapL → Bool → Nat → (Nat → Nat → PV) → Option α) (k2 : Int → MapL → Nat → (Nat → Nat → PV) → Option α), fdb_Table_Learn m v p c M nl n f k0 k1 k2 = k1 c M nl' n' f') ∨
     (∀ {α : Type} (k0 : Int → MapL → Bool → Nat → (Nat → Nat → PV) → Option α) (k1 : Int → MapL → Bool → Nat → (Nat → Nat → PV) → Option α) (k2 : Int → MapL → Nat → (Nat → Nat → PV) → Option α), fdb_Table_Learn m v p c M nl n f k0 k1 k2 = k2 c M n' f')) := by
  have hLn := hL.n
  unfold gd at hg
  simp only [Bool.and_eq_true, Bool.not_eq_true'] at hg
  obtain ⟨g1, g2, g3, g4, g5, g6, g7⟩ := hg
  unfold learnL
  cases hh : hasK L v m with
  | true =>
    rw [cond_true]
    obtain ⟨hp, hk⟩ := has_pos hs hh
    refine ⟨nl, n, _, hL.set (pos L v m) ⟨m, v, p, c⟩, hnl, .inl fun {α} k0 k1 k2 => ?_⟩
    unfold fdb_Table_Learn fdb_Table_Learn_T mac_Group mac_Group_T
    rw [shr48 hm, g1, g2, g3, g4, g5, g6, g7, hM]
    simp only [Bool.not_true, cond_true, cond_false]
    rw [find_hit hL hs (by omega) v m c M nl hh, cond_true, inb_t (by omega) (by omega), cond_true]
    unfold e11
    rw [Int.toNat_natCast]
    rfl
  | false =>
    rw [cond_false]
    by_cases h32 : 32 ≤ L.length
    · rw [decide_eq_true h32, cond_true]
      have ho := oldN_lt L L.length (by omega)
      have hkey : (L.getD (oldN L n) enz).vlan = (L[oldN L L.length]).vlan ∧ (L.getD (oldN L n) enz).mac = (L[oldN L L.length]).mac := by
        rw [← hLn, List.getD_eq_getElem?_getD, List.getElem?_eq_getElem ho]
        exact ⟨rfl, rfl⟩
      have hpo : pos L (L.getD (oldN L n) enz).vlan (L.getD (oldN L n) enz).mac = oldN L L.length := pos_at hs ho ⟨hkey.1.symm, hkey.2.symm⟩
      have hho : hasK L (L.getD (oldN L n) enz).vlan (L.getD (oldN L n) enz).mac = true := pos_has ho ⟨hkey.1.symm, hkey.2.symm⟩
      obtain ⟨n1, f1, hE1, hn1, hd⟩ := del_eq hL (by omega) nl (oldN L L.length) (by omega)
      obtain ⟨n2, f2, hE2, hi⟩ := learn_ins hE1 (hs.sublist (List.eraseIdx_sublist _ _)) (by omega) m v p c M nl (has_erase hh)
      refine ⟨false, n2, f2, hE2, (fun h => nomatch h), .inr fun {α} k0 k1 k2 => ?_⟩
      have hw : IntKind.i64.wrap ((oldN L L.length : Nat) + 1) = ((oldN L L.length + 1 : Nat) : Int) := by rw [i64_id (by omega) (by omega)]; rfl
      have d1 : decide ((n : Int) ≥ 32) = true := dec_t (by omega)
      have d2 : decide ((n : Int) < 1) = false := dec_f (by omega)
      have i0 : inb 0 n = true := inb_t (by omega) (by omega)
      unfold fdb_Table_Learn fdb_Table_Learn_T mac_Group mac_Group_T
      rw [shr48 hm, g1, g2, g3, g4, g5, g6, g7, hM]
      simp only [Bool.not_true, cond_true, cond_false]

      rcases find_miss hL hs (by omega) v m c M nl hh with hf | hf
      · rw [hf, cond_false, d1, cond_true, d2, cond_false, i0, cond_true, min_eq hL hs (by omega) nl (by omega), find_hit hL hs (by omega) _ _ c M nl hho, hpo, hw, hd]
        exact hi k2
      · rw [hf, d1, cond_true, d2, cond_false, i0, cond_true, min_eq hL hs (by omega) nl (by omega), find_hit hL hs (by omega) _ _ c M nl hho, hpo, hw, hd]
        exact hi k2
    · rw [decide_eq_false h32, cond_false]
      obtain ⟨n2, f2, hE2, hi⟩ := learn_ins hL hs (by omega) m v p c M nl hh
      refine ⟨false, n2, f2, hE2, (fun h => nomatch h), .inr fun {α} k0 k1 k2 => ?_⟩
      have d1 : decide ((n : Int) ≥ 32) = false := dec_f (by omega)
      unfold fdb_Table_Learn fdb_Table_Learn_T mac_Group mac_Group_T
      rw [shr48 hm, g1, g2, g3, g4, g5, g6, g7, hM]
      simp only [Bool.not_true, cond_true, cond_false]

      rcases find_miss hL hs (by omega) v m c M nl hh with hf | hf
      · rw [hf, cond_false, d1, cond_false]
        exact hi k2
      · rw [hf, d1, cond_false]
        exact hi k2
theorem learn_one {n : Nat} {f : Nat → Nat → PV} {L : List En} (hL : EL n f L) (hs : Srt L) (hn : n ≤ 32) {m v p : Int} (c : Int) {M : MapL} (hm : 0 ≤ m) (hg : gd m v p = true) (hM : mhas M [.val (.int .i64 v), .val (.int .u64 m)] = false) (nl : Bool) (hnl : nl = true → n = 0) : ∃ nl' n' f', EL n' f' (learnL L ⟨m, v, p, c⟩) ∧ (nl' = true → n' = 0) ∧
    ∀ {α : Type} (k0 kk : Int → MapL → Bool → Nat → (Nat → Nat → PV) → Option α), fdb_Table_Learn m v p c M nl n f k0 kk (fun c' M' n1 f1 => kk c' M' false n1 f1) = kk c M nl' n' f' := by
  obtain ⟨nl', n', f', hE, hz, h | h⟩ := learn_yes hL hs hn c hm hg hM nl hnl
  · exact ⟨nl', n', f', hE, hz, fun {α} k0 kk => h _ _ _⟩
  · exact ⟨false, n', f', hE, (fun h => nomatch h), fun {α} k0 kk => h _ _ _⟩
theorem look_static {m v c : Int} {M : MapL} (h : mhas M [.val (.int .i64 v), .val (.int .u64 m)] = true) (nl : Bool) (n : Nat) (f : Nat → Nat → PV) {α : Type} (k0 : Int → Int → MapL → Bool → Nat → (Nat → Nat → PV) → Option α) (k1 : Int → MapL → Bool → Nat → (Nat → Nat → PV) → Option α) :
    fdb_Table_Look m v c M nl n f k0 k1 = k0 (numOf (mcell M [.val (.int .i64 v), .val (.int .u64 m)] 0)) c M nl n f := by
  unfold fdb_Table_Look fdb_Table_Look_T
  rw [h, cond_true]
theorem look_some {n : Nat} {f : Nat → Nat → PV} {L : List En} (hL : EL n f L) (hs : Srt L) (hn : n ≤ 1000000) {m v c : Int} {M : MapL} (h : mhas M [.val (.int .i64 v), .val (.int .u64 m)] = false) (nl : Bool) {e : En} (hf : findL L v m = some e) {α : Type} (k0 : Int → Int → MapL → Bool → Nat → (Nat → Nat → PV) → Option α) (k1 : Int → MapL → Bool → Nat → (Nat → Nat → PV) → Option α) :
    fdb_Table_Look m v c M nl n f k0 k1 = k0 e.port c M nl n f := by
  have hLn := hL.n
  obtain ⟨he, hk⟩ := (findL_some hs).1 hf
  have hh : hasK L v m = true := hasK_iff.2 ⟨e, he, hk⟩
  obtain ⟨hp, hq⟩ := has_pos hs hh
  have : L[pos L v m] = e := srt_uniq hs (List.getElem_mem hp) he ⟨hq.1.trans hk.1.symm, hq.2.trans hk.2.symm⟩
  unfold fdb_Table_Look fdb_Table_Look_T
  rw [h, cond_false, find_hit hL hs hn v m c M nl hh, cond_true, inb_t (by omega) (by omega), cond_true, Int.toNat_natCast, hL.port hp, this]
theorem look_none {n : Nat} {f : Nat → Nat → PV} {L : List En} (hL : EL n f L) (hs : Srt L) (hn : n ≤ 1000000) {m v c : Int} {M : MapL} (h : mhas M [.val (.int .i64 v), .val (.int .u64 m)] = false) (nl : Bool) (hf : findL L v m = none) {α : Type} (k0 : Int → Int → MapL → Bool → Nat → (Nat → Nat → PV) → Option α) (k1 : Int → MapL → Bool → Nat → (Nat → Nat → PV) → Option α) :
    fdb_Table_Look m v c M nl n f k0 k1 = k1 c M nl n f := by
  unfold fdb_Table_Look fdb_Table_Look_T
  rw [h, cond_false]
  rcases find_miss hL hs hn v m c M nl (findL_none.1 hf) with hq | hq
  · rw [hq, cond_false]
  · rw [hq]
theorem clone_eq {n : Nat} {f : Nat → Nat → PV} {L : List En} (hL : EL n f L) (hn : n ≤ 1000000) (nl : Bool) (hnl : nl = true → n = 0) : ∃ nl' f', EL n f' L ∧ ∀ {α : Type} (k0 : Bool → Nat → (Nat → Nat → PV) → Bool → Nat → (Nat → Nat → PV) → Option α), slices_Clone_fdb_Entry nl n f k0 = k0 nl n f nl' n f' := by
  cases nl with
  | true =>
    have h0 := hnl rfl
    subst h0
    exact ⟨true, _, hL.congr fun j hj => absurd hj (Nat.not_lt_zero j), fun {α} k0 => rfl⟩
  | false =>
    refine ⟨false, catf 0 (rowOf 4 []) f, ?_, fun {α} k0 => ?_⟩
    · rw [catf_zero]; exact hL
    · unfold slices_Clone_fdb_Entry slices_Clone_fdb_Entry_T
      rw [cond_false, Nat.zero_add, bnd32 (by omega), cond_true]
theorem age_dec {c : Int} {L : List En} (h : TabOk c L) {j : Nat} (hj : j < L.length) : decide (IntKind.i64.wrap (c - L[j].seen) ≥ 300) = !decide (c - L[j].seen < 300) := by
  have h1 := h.t _ (List.getElem_mem hj)
  have h2 := h.c1
  rw [i64_id (by omega) (by omega)]
  by_cases hd : c - L[j].seen < 300
  · rw [dec_t hd, dec_f (by omega)]; rfl
  · rw [dec_f hd, dec_t (by omega)]; rfl
theorem tick_find {n : Nat} {f : Nat → Nat → PV} {L : List En} {c : Int} (hL : EL n f L) (hT : TabOk c L) (nl : Bool) (M : MapL) : ∀ (d i fuel : Nat), i + d = n → d < fuel → (∀ j (h : j < L.length), j < i → c - L[j].seen < 300) →
    (∃ p, p < n ∧ (∀ (h : p < L.length), ¬ c - L[p].seen < 300) ∧ (∀ j (h : j < L.length), j < p → c - L[j].seen < 300) ∧ (∀ {α : Type} (k0 : Int → Bool → Nat → (Nat → Nat → PV) → Int → MapL → Option α) (k1 : Bool → Nat → (Nat → Nat → PV) → Int → MapL → Option α), slices_IndexFunc_fdb_Entry_c87_L0_l0 k0 k1 fuel (n : Int) (i : Int) nl n f c M = k0 (p : Nat) nl n f c M)) ∨
    ((∀ j (h : j < L.length), c - L[j].seen < 300) ∧ ∀ {α : Type} (k0 : Int → Bool → Nat → (Nat → Nat → PV) → Int → MapL → Option α) (k1 : Bool → Nat → (Nat → Nat → PV) → Int → MapL → Option α), slices_IndexFunc_fdb_Entry_c87_L0_l0 k0 k1 fuel (n : Int) (i : Int) nl n f c M = k1 nl n f c M)
  | 0, i, fuel + 1, hd, hf, ha => by
    obtain rfl : i = n := by omega
    refine .inr ⟨fun j h => ha j h (by have := hL.n; omega), fun {α} k0 k1 => ?_⟩
    show slices_IndexFunc_fdb_Entry_c87_L0_s0 _ k0 k1 (i : Int) (i : Int) nl i f c M = _
    unfold slices_IndexFunc_fdb_Entry_c87_L0_s0
    rw [dec_f (Int.lt_irrefl _), cond_false]
  | d + 1, i, fuel + 1, hd, hf, ha => by
    have hLn := hL.n
    have hlt : i < L.length := by omega
    have hn := hT.n
    have step : ∀ {α : Type} (k0 : Int → Bool → Nat → (Nat → Nat → PV) → Int → MapL → Option α) (k1 : Bool → Nat → (Nat → Nat → PV) → Int → MapL → Option α), slices_IndexFunc_fdb_Entry_c87_L0_l0 k0 k1 (fuel + 1) (n : Int) (i : Int) nl n f c M = bif !decide (c - L[i].seen < 300) then k0 (i : Int) nl n f c M else slices_IndexFunc_fdb_Entry_c87_L0_l0 k0 k1 fuel (n : Int) ((i + 1 : Nat) : Int) nl n f c M := by
      intro α k0 k1
      show slices_IndexFunc_fdb_Entry_c87_L0_s0 _ k0 k1 (n : Int) (i : Int) nl n f c M = _
      unfold slices_IndexFunc_fdb_Entry_c87_L0_s0
      rw [dec_t (show (i : Int) < (n : Int) by omega), cond_true, inb_t (by omega) (by omega), cond_true, Int.toNat_natCast, hL.seen hlt, age_dec hT hlt, i64_id (by omega) (by omega)]
      rfl
    by_cases hx : c - L[i].seen < 300
    · rcases tick_find hL hT nl M d (i + 1) fuel (by omega) (by omega) (fun j h hj => by
        rcases Nat.lt_succ_iff_lt_or_eq.1 hj with h1 | rfl
        · exact ha j h h1
        · exact hx) with ⟨p, hp, hpg, ha', he⟩ | ⟨ha', he⟩
      · exact .inl ⟨p, hp, hpg, ha', fun {α} k0 k1 => by rw [step, dec_t hx]; exact he k0 k1⟩
      · exact .inr ⟨ha', fun {α} k0 k1 => by rw [step, dec_t hx]; exact he k0 k1⟩
    · exact .inl ⟨i, by omega, fun _ => hx, ha, fun {α} k0 k1 => by rw [step, dec_f hx]; rfl⟩
theorem tick_move {n : Nat} {L : List En} {c : Int} (hLn : L.length = n) (hT : TabOk c L) (nl : Bool) (M : MapL) : ∀ (d i j fuel : Nat) (f : Nat → Nat → PV) (A : List En), j + d = n → i ≤ j → EL i f A → (∀ t (h : t < L.length), j ≤ t → ∀ c', c' < 4 → f t c' = ecell L[t] c') → d < fuel →
    ∃ i' f', i' ≤ n ∧ EL i' f' (A ++ ageL c (L.drop j)) ∧ ∀ {α : Type} (k0 : Int → Bool → Nat → (Nat → Nat → PV) → Int → MapL → Option α), slices_DeleteFunc_fdb_Entry_c87_L0_l0 k0 fuel (i : Int) (j : Int) nl n f c M = k0 (i' : Nat) nl n f' c M
  | 0, i, j, fuel + 1, f, A, hd, hij, hA, hr, hf => by
    obtain rfl : j = n := by omega
    refine ⟨i, f, hij, ?_, fun {α} k0 => ?_⟩
    · rw [List.drop_eq_nil_of_le (by omega)]; show EL i f (A ++ []); rw [List.append_nil]; exact hA
    · show slices_DeleteFunc_fdb_Entry_c87_L0_s0 _ k0 (i : Int) (j : Int) nl j f c M = _
      unfold slices_DeleteFunc_fdb_Entry_c87_L0_s0
      rw [dec_f (Int.lt_irrefl _), cond_false]
  | d + 1, i, j, fuel + 1, f, A, hd, hij, hA, hr, hf => by
    have hlt : j < L.length := by omega
    have hn := hT.n
    have hdr : L.drop j = L[j] :: L.drop (j + 1) := by rw [List.drop_eq_getElem_cons hlt]
    have c0 : numOf (f j 0) = L[j].mac := by rw [hr j hlt (Nat.le_refl _) 0 (by decide)]; rfl
    have c1 : numOf (f j 1) = L[j].vlan := by rw [hr j hlt (Nat.le_refl _) 1 (by decide)]; rfl
    have c2 : numOf (f j 2) = L[j].port := by rw [hr j hlt (Nat.le_refl _) 2 (by decide)]; rfl
    have c3 : numOf (f j 3) = L[j].seen := by rw [hr j hlt (Nat.le_refl _) 3 (by decide)]; rfl
    have eset : e20 f (i : Int) (j : Int) = setf f i 0 (ecells L[j]) := by
      unfold e20
      rw [Int.toNat_natCast, Int.toNat_natCast, c0, c1, c2, c3]
      rfl
    have step : ∀ {α : Type} (k0 : Int → Bool → Nat → (Nat → Nat → PV) → Int → MapL → Option α), slices_DeleteFunc_fdb_Entry_c87_L0_l0 k0 (fuel + 1) (i : Int) (j : Int) nl n f c M = bif decide (c - L[j].seen < 300) then slices_DeleteFunc_fdb_Entry_c87_L0_l0 k0 fuel ((i + 1 : Nat) : Int) ((j + 1 : Nat) : Int) nl n (setf f i 0 (ecells L[j])) c M else slices_DeleteFunc_fdb_Entry_c87_L0_l0 k0 fuel (i : Int) ((j + 1 : Nat) : Int) nl n f c M := by
      intro α k0
      show slices_DeleteFunc_fdb_Entry_c87_L0_s0 _ k0 (i : Int) (j : Int) nl n f c M = _
      unfold slices_DeleteFunc_fdb_Entry_c87_L0_s0
      rw [dec_t (show (j : Int) < (n : Int) by omega), cond_true, inb_t (by omega) (by omega), cond_true, inb_t (by omega) (by omega), cond_true, eset, Int.toNat_natCast, c3, age_dec hT hlt, Bool.not_not, i64_id (by omega) (by omega), i64_id (by omega) (by omega)]
      rfl
    have hage : ageL c (L.drop j) = if c - L[j].seen < 300 then L[j] :: ageL c (L.drop (j + 1)) else ageL c (L.drop (j + 1)) := by
      rw [hdr]
      unfold ageL
      rw [List.filter_cons]
      simp only [decide_eq_true_eq]
    by_cases hx : c - L[j].seen < 300
    · have hA' : EL (i + 1) (setf f i 0 (ecells L[j])) (A ++ [L[j]]) := by
        refine ⟨by rw [List.length_append, hA.n]; rfl, fun t ht c' hc => ?_⟩
        have hAn := hA.n
        rw [List.length_append, List.length_singleton] at ht
        rw [setf_ecells f i L[j] t c' hc]
        by_cases h1 : t = i
        · subst h1
          rw [if_pos rfl, List.getElem_append_right (by omega)]
          simp only [hAn, Nat.sub_self]
          rfl
        · rw [if_neg h1, List.getElem_append_left (by omega)]
          exact hA.r t (by omega) c' hc
      obtain ⟨i', f', hi', hE, he⟩ := tick_move hLn hT nl M d (i + 1) (j + 1) fuel _ _ (by omega) (by omega) hA' (fun t h htj c' hc => by
        rw [setf_ecells f i L[j] t c' hc, if_neg (by omega)]
        exact hr t h (by omega) c' hc) (by omega)
      refine ⟨i', f', hi', ?_, fun {α} k0 => by rw [step, dec_t hx, cond_true]; exact he k0⟩
      rw [hage, if_pos hx]
      simpa using hE
    · obtain ⟨i', f', hi', hE, he⟩ := tick_move hLn hT nl M d i (j + 1) fuel f A (by omega) (by omega) hA (fun t h htj c' hc => hr t h (by omega) c' hc) (by omega)
      refine ⟨i', f', hi', ?_, fun {α} k0 => by rw [step, dec_f hx, cond_false]; exact he k0⟩
      rw [hage, if_neg hx]
      exact hE
theorem age_all {c : Int} {L : List En} (h : ∀ j (h : j < L.length), c - L[j].seen < 300) : ageL c L = L := by
  unfold ageL
  rw [List.filter_eq_self]
  intro e he
  obtain ⟨j, hj, rfl⟩ := List.getElem_of_mem he
  exact decide_eq_true (h j hj)
theorem age_split {c : Int} {L : List En} (p : Nat) (h : ∀ j (h : j < L.length), j < p → c - L[j].seen < 300) : ageL c L = L.take p ++ ageL c (L.drop p) := by
  have h1 : ageL c L = ageL c (L.take p ++ L.drop p) := by rw [List.take_append_drop]
  rw [h1]
  unfold ageL
  rw [List.filter_append]
  congr 1
  rw [List.filter_eq_self]
  intro e he
  obtain ⟨j, hj, rfl⟩ := List.getElem_of_mem he
  rw [List.length_take] at hj
  rw [List.getElem_take]
  exact decide_eq_true (h j (by omega) (by omega))
theorem tick_eq {n : Nat} {f : Nat → Nat → PV} {L : List En} {c : Int} (hL : EL n f L) (hT : TabOk c L) (nl : Bool) (M : MapL) (hnl : nl = true → n = 0) : ∃ n' f', EL n' f' (tickL c L).2 ∧ (nl = true → n' = 0) ∧
    ((∀ {α : Type} (k0 k1 : Int → MapL → Bool → Nat → (Nat → Nat → PV) → Option α), fdb_Table_Tick c M nl n f k0 k1 = k0 (tickL c L).1 M nl n' f') ∨
     (∀ {α : Type} (k0 k1 : Int → MapL → Bool → Nat → (Nat → Nat → PV) → Option α), fdb_Table_Tick c M nl n f k0 k1 = k1 (tickL c L).1 M nl n' f')) := by
  have hLn := hL.n
  have hn := hT.n
  have hc1 := hT.c1
  have hc0 := hT.c0
  unfold tickL
  by_cases hd : c ≥ 1073741824
  · refine ⟨n, f, by rw [dec_t hd]; exact hL, hnl, .inl fun {α} k0 k1 => ?_⟩
    unfold fdb_Table_Tick fdb_Table_Tick_T
    rw [dec_t hd]
    rfl
  · have hT' := hT.up (by omega)
    rw [dec_f hd, cond_false]
    have hw : IntKind.i64.wrap (c + 1) = c + 1 := i64_id (by omega) (by omega)
    rcases tick_find hL hT' nl M n 0 18446744073709551616 (by omega) (by omega) (fun j h hj => absurd hj (Nat.not_lt_zero j)) with ⟨p, hp, hpg, ha, he⟩ | ⟨ha, he⟩
    · have hr : ∀ t (h : t < L.length), p + 1 ≤ t → ∀ c', c' < 4 → f t c' = ecell L[t] c' := fun t h _ c' hc => hL.r t h c' hc
      obtain ⟨i', f', hi', hE, hm⟩ := tick_move hLn hT' nl M (n - (p + 1)) p (p + 1) 18446744073709551616 f (L.take p) (by omega) (by omega) (hL.take p (by omega)) hr (by omega)
      have hwp : IntKind.i64.wrap ((p : Int) + 1) = ((p + 1 : Nat) : Int) := by rw [i64_id (by omega) (by omega)]; rfl
      have hpn : ((p : Int) == -1) = false := by
        cases hh : ((p : Int) == -1) with
        | false => rfl
        | true => have := eq_of_beq hh; omega
      refine ⟨i', e21 (i' : Int) n f', ?_, fun h => by have := hnl h; omega, .inr fun {α} k0 k1 => ?_⟩
      · show EL i' _ (ageL (c + 1) L)
        have e : ageL (c + 1) L = L.take p ++ ageL (c + 1) (L.drop (p + 1)) := by
          rw [age_split p ha, List.drop_eq_getElem_cons (by omega : p < L.length)]
          congr 1
          unfold ageL
          rw [List.filter_cons, if_neg (by simpa using hpg (by omega))]
        rw [e]
        unfold e21
        exact hE.clr _ _ _ (by omega)
      · unfold fdb_Table_Tick fdb_Table_Tick_T slices_DeleteFunc_fdb_Entry_c87 slices_DeleteFunc_fdb_Entry_c87_T slices_IndexFunc_fdb_Entry_c87 slices_IndexFunc_fdb_Entry_c87_T slices_IndexFunc_fdb_Entry_c87_L0 slices_DeleteFunc_fdb_Entry_c87_L0
        rw [dec_f hd, cond_false, hw]
        refine Eq.trans (he _ _) ?_
        dsimp only
        rw [hpn, cond_false, hwp]
        refine Eq.trans (hm _) ?_
        rw [inb_t (by omega) (by omega), cond_true, dec_t (show (0 : Int) ≤ (i' : Int) by omega), dec_t (show (i' : Int) ≤ (n : Int) by omega), inb_t (by omega) (by omega), Int.toNat_natCast]
        rfl
    · refine ⟨n, f, ?_, hnl, .inl fun {α} k0 k1 => ?_⟩
      · show EL n f (ageL (c + 1) L)
        rw [age_all ha]; exact hL
      · unfold fdb_Table_Tick fdb_Table_Tick_T slices_DeleteFunc_fdb_Entry_c87 slices_DeleteFunc_fdb_Entry_c87_T slices_IndexFunc_fdb_Entry_c87 slices_IndexFunc_fdb_Entry_c87_T slices_IndexFunc_fdb_Entry_c87_L0
        rw [dec_f hd, cond_false, hw]
        refine Eq.trans (he _ _) ?_
        rfl
theorem tick_one {n : Nat} {f : Nat → Nat → PV} {L : List En} {c : Int} (hL : EL n f L) (hT : TabOk c L) (nl : Bool) (M : MapL) (hnl : nl = true → n = 0) : ∃ n' f', EL n' f' (tickL c L).2 ∧ (nl = true → n' = 0) ∧
    ∀ {α : Type} (kk : Int → MapL → Bool → Nat → (Nat → Nat → PV) → Option α), fdb_Table_Tick c M nl n f kk kk = kk (tickL c L).1 M nl n' f' := by
  obtain ⟨n', f', hE, hz, h | h⟩ := tick_eq hL hT nl M hnl
  · exact ⟨n', f', hE, hz, fun {α} kk => h _ _⟩
  · exact ⟨n', f', hE, hz, fun {α} kk => h _ _⟩
def hasP (f : Nat → Nat → PV) (n : Nat) (x : Int) : Bool := (List.range n).any fun j => x == numOf (f j 0)
theorem hasP_iff {f : Nat → Nat → PV} {n : Nat} {x : Int} : hasP f n x = true ↔ ∃ j, j < n ∧ x = numOf (f j 0) := by
  unfold hasP
  rw [List.any_eq_true]
  exact ⟨fun ⟨j, h1, h2⟩ => ⟨j, List.mem_range.1 h1, eq_of_beq h2⟩, fun ⟨j, h1, h2⟩ => ⟨j, List.mem_range.2 h1, by rw [← h2]; exact beq_self_eq_true x⟩⟩
theorem hasP_ff {f : Nat → Nat → PV} {n : Nat} {x : Int} : hasP f n x = false ↔ ∀ j, j < n → x ≠ numOf (f j 0) := by
  constructor
  · intro h j hj e
    rw [hasP_iff.2 ⟨j, hj, e⟩] at h; cases h
  · intro h
    cases hh : hasP f n x with
    | false => rfl
    | true => obtain ⟨j, hj, e⟩ := hasP_iff.1 hh; exact absurd e (h j hj)
theorem index_loop {n : Nat} (f : Nat → Nat → PV) (hn : n ≤ 1000000) (x : Int) (nl : Bool) : ∀ (d i fuel : Nat), i + d = n → d < fuel → (∀ j, j < i → x ≠ numOf (f j 0)) →
    (∃ r : Nat, hasP f n x = true ∧ ∀ {α : Type} (k0 : Int → Bool → Nat → (Nat → Nat → PV) → Option α) (k1 : Bool → Nat → (Nat → Nat → PV) → Option α), slices_Index_int_L0_l0 k0 k1 fuel x (n : Int) (i : Int) nl n f = k0 (r : Int) nl n f) ∨
    (hasP f n x = false ∧ ∀ {α : Type} (k0 : Int → Bool → Nat → (Nat → Nat → PV) → Option α) (k1 : Bool → Nat → (Nat → Nat → PV) → Option α), slices_Index_int_L0_l0 k0 k1 fuel x (n : Int) (i : Int) nl n f = k1 nl n f)
  | 0, i, fuel + 1, hd, hf, ha => by
    obtain rfl : i = n := by omega
    refine .inr ⟨hasP_ff.2 ha, fun {α} k0 k1 => ?_⟩
    show slices_Index_int_L0_s0 _ k0 k1 x (i : Int) (i : Int) nl i f = _
    unfold slices_Index_int_L0_s0
    rw [dec_f (Int.lt_irrefl _), cond_false]
  | d + 1, i, fuel + 1, hd, hf, ha => by
    have step : ∀ {α : Type} (k0 : Int → Bool → Nat → (Nat → Nat → PV) → Option α) (k1 : Bool → Nat → (Nat → Nat → PV) → Option α), slices_Index_int_L0_l0 k0 k1 (fuel + 1) x (n : Int) (i : Int) nl n f = bif x == numOf (f i 0) then k0 (i : Int) nl n f else slices_Index_int_L0_l0 k0 k1 fuel x (n : Int) ((i + 1 : Nat) : Int) nl n f := by
      intro α k0 k1
      show slices_Index_int_L0_s0 _ k0 k1 x (n : Int) (i : Int) nl n f = _
      unfold slices_Index_int_L0_s0
      rw [dec_t (show (i : Int) < (n : Int) by omega), cond_true, inb_t (by omega) (by omega), cond_true, Int.toNat_natCast, i64_id (by omega) (by omega)]
      rfl
    cases hx : (x == numOf (f i 0)) with
    | true => exact .inl ⟨i, hasP_iff.2 ⟨i, by omega, eq_of_beq hx⟩, fun {α} k0 k1 => by rw [step, hx]; rfl⟩
    | false =>
      have hne : x ≠ numOf (f i 0) := fun h => by rw [← h, beq_self_eq_true] at hx; cases hx
      rcases index_loop f hn x nl d (i + 1) fuel (by omega) (by omega) (fun j hj => by
        rcases Nat.lt_succ_iff_lt_or_eq.1 hj with h1 | rfl
        · exact ha j h1
        · exact hne) with ⟨r, hr, he⟩ | ⟨hr, he⟩
      · exact .inl ⟨r, hr, fun {α} k0 k1 => by rw [step, hx]; exact he k0 k1⟩
      · exact .inr ⟨hr, fun {α} k0 k1 => by rw [step, hx]; exact he k0 k1⟩
theorem index_eq {n : Nat} (f : Nat → Nat → PV) (hn : n ≤ 1000000) (x : Int) (nl : Bool) : ∃ r : Int, decide (r ≥ 0) = hasP f n x ∧ ∀ {α : Type} (k0 : Int → Bool → Nat → (Nat → Nat → PV) → Option α), slices_Index_int x nl n f k0 = k0 r nl n f := by
  rcases index_loop f hn x nl n 0 18446744073709551616 (by omega) (by omega) (fun j hj => absurd hj (Nat.not_lt_zero j)) with ⟨r, hr, he⟩ | ⟨hr, he⟩
  · refine ⟨r, by rw [hr]; exact dec_t (by omega), fun {α} k0 => ?_⟩
    unfold slices_Index_int slices_Index_int_T slices_Index_int_L0
    exact he _ _
  · refine ⟨-1, by rw [hr]; rfl, fun {α} k0 => ?_⟩
    unfold slices_Index_int slices_Index_int_T slices_Index_int_L0
    exact he _ _
theorem flush_find {n : Nat} {f : Nat → Nat → PV} {L : List En} (hL : EL n f L) (hn : n ≤ 1000000) (nl pnl : Bool) (pn : Nat) (pf : Nat → Nat → PV) (hpn : pn ≤ 1000000) : ∀ (d i fuel : Nat), i + d = n → d < fuel → (∀ j (h : j < L.length), j < i → hasP pf pn L[j].port = false) →
    (∃ p, p < n ∧ (∀ (h : p < L.length), hasP pf pn L[p].port = true) ∧ (∀ j (h : j < L.length), j < p → hasP pf pn L[j].port = false) ∧ (∀ {α : Type} (k0 : Int → Bool → Nat → (Nat → Nat → PV) → Bool → Nat → (Nat → Nat → PV) → Option α) (k1 : Bool → Nat → (Nat → Nat → PV) → Bool → Nat → (Nat → Nat → PV) → Option α), slices_IndexFunc_fdb_Entry_c94_L0_l0 k0 k1 fuel (n : Int) (i : Int) nl n f pnl pn pf = k0 (p : Nat) nl n f pnl pn pf)) ∨
    ((∀ j (h : j < L.length), hasP pf pn L[j].port = false) ∧ ∀ {α : Type} (k0 : Int → Bool → Nat → (Nat → Nat → PV) → Bool → Nat → (Nat → Nat → PV) → Option α) (k1 : Bool → Nat → (Nat → Nat → PV) → Bool → Nat → (Nat → Nat → PV) → Option α), slices_IndexFunc_fdb_Entry_c94_L0_l0 k0 k1 fuel (n : Int) (i : Int) nl n f pnl pn pf = k1 nl n f pnl pn pf)
  | 0, i, fuel + 1, hd, hf, ha => by
    obtain rfl : i = n := by omega
    refine .inr ⟨fun j h => ha j h (by have := hL.n; omega), fun {α} k0 k1 => ?_⟩
    show slices_IndexFunc_fdb_Entry_c94_L0_s0 _ _ k0 k1 (i : Int) (i : Int) nl i f pnl pn pf = _
    unfold slices_IndexFunc_fdb_Entry_c94_L0_s0
    rw [dec_f (Int.lt_irrefl _), cond_false]
  | d + 1, i, fuel + 1, hd, hf, ha => by
    have hLn := hL.n
    have hlt : i < L.length := by omega
    obtain ⟨r, hr, hi⟩ := index_eq pf hpn L[i].port pnl
    have step : ∀ {α : Type} (k0 : Int → Bool → Nat → (Nat → Nat → PV) → Bool → Nat → (Nat → Nat → PV) → Option α) (k1 : Bool → Nat → (Nat → Nat → PV) → Bool → Nat → (Nat → Nat → PV) → Option α), slices_IndexFunc_fdb_Entry_c94_L0_l0 k0 k1 (fuel + 1) (n : Int) (i : Int) nl n f pnl pn pf = bif hasP pf pn L[i].port then k0 (i : Int) nl n f pnl pn pf else slices_IndexFunc_fdb_Entry_c94_L0_l0 k0 k1 fuel (n : Int) ((i + 1 : Nat) : Int) nl n f pnl pn pf := by
      intro α k0 k1
      show slices_IndexFunc_fdb_Entry_c94_L0_s0 _ _ k0 k1 (n : Int) (i : Int) nl n f pnl pn pf = _
      unfold slices_IndexFunc_fdb_Entry_c94_L0_s0
      rw [dec_t (show (i : Int) < (n : Int) by omega), cond_true, inb_t (by omega) (by omega), cond_true, Int.toNat_natCast, hL.port hlt, hi, hr, i64_id (by omega) (by omega)]
      rfl
    cases hx : hasP pf pn L[i].port with
    | false =>
      rcases flush_find hL hn nl pnl pn pf hpn d (i + 1) fuel (by omega) (by omega) (fun j h hj => by
        rcases Nat.lt_succ_iff_lt_or_eq.1 hj with h1 | rfl
        · exact ha j h h1
        · exact hx) with ⟨p, hp, hpg, ha', he⟩ | ⟨ha', he⟩
      · exact .inl ⟨p, hp, hpg, ha', fun {α} k0 k1 => by rw [step, hx]; exact he k0 k1⟩
      · exact .inr ⟨ha', fun {α} k0 k1 => by rw [step, hx]; exact he k0 k1⟩
    | true => exact .inl ⟨i, by omega, fun _ => hx, ha, fun {α} k0 k1 => by rw [step, hx]; rfl⟩
theorem flush_move {n : Nat} {L : List En} (hLn : L.length = n) (hn : n ≤ 1000000) (nl pnl : Bool) (pn : Nat) (pf : Nat → Nat → PV) (hpn : pn ≤ 1000000) : ∀ (d i j fuel : Nat) (f : Nat → Nat → PV) (A : List En), j + d = n → i ≤ j → EL i f A → (∀ t (h : t < L.length), j ≤ t → ∀ c', c' < 4 → f t c' = ecell L[t] c') → d < fuel →
    ∃ i' f', i' ≤ n ∧ EL i' f' (A ++ flushL (hasP pf pn) (L.drop j)) ∧ ∀ {α : Type} (k0 : Int → Bool → Nat → (Nat → Nat → PV) → Bool → Nat → (Nat → Nat → PV) → Option α), slices_DeleteFunc_fdb_Entry_c94_L0_l0 k0 fuel (i : Int) (j : Int) nl n f pnl pn pf = k0 (i' : Nat) nl n f' pnl pn pf
  | 0, i, j, fuel + 1, f, A, hd, hij, hA, hr, hf => by
    obtain rfl : j = n := by omega
    refine ⟨i, f, hij, ?_, fun {α} k0 => ?_⟩
    · rw [List.drop_eq_nil_of_le (by omega)]; show EL i f (A ++ []); rw [List.append_nil]; exact hA
    · show slices_DeleteFunc_fdb_Entry_c94_L0_s0 _ _ k0 (i : Int) (j : Int) nl j f pnl pn pf = _
      unfold slices_DeleteFunc_fdb_Entry_c94_L0_s0
      rw [dec_f (Int.lt_irrefl _), cond_false]
  | d + 1, i, j, fuel + 1, f, A, hd, hij, hA, hr, hf => by
    have hlt : j < L.length := by omega
    have hdr : L.drop j = L[j] :: L.drop (j + 1) := by rw [List.drop_eq_getElem_cons hlt]
    have c0 : numOf (f j 0) = L[j].mac := by rw [hr j hlt (Nat.le_refl _) 0 (by decide)]; rfl
    have c1 : numOf (f j 1) = L[j].vlan := by rw [hr j hlt (Nat.le_refl _) 1 (by decide)]; rfl
    have c2 : numOf (f j 2) = L[j].port := by rw [hr j hlt (Nat.le_refl _) 2 (by decide)]; rfl
    have c3 : numOf (f j 3) = L[j].seen := by rw [hr j hlt (Nat.le_refl _) 3 (by decide)]; rfl
    have eset : e20 f (i : Int) (j : Int) = setf f i 0 (ecells L[j]) := by
      unfold e20
      rw [Int.toNat_natCast, Int.toNat_natCast, c0, c1, c2, c3]
      rfl
    obtain ⟨r, hri, hi⟩ := index_eq pf hpn L[j].port pnl
    have step : ∀ {α : Type} (k0 : Int → Bool → Nat → (Nat → Nat → PV) → Bool → Nat → (Nat → Nat → PV) → Option α), slices_DeleteFunc_fdb_Entry_c94_L0_l0 k0 (fuel + 1) (i : Int) (j : Int) nl n f pnl pn pf = bif !hasP pf pn L[j].port then slices_DeleteFunc_fdb_Entry_c94_L0_l0 k0 fuel ((i + 1 : Nat) : Int) ((j + 1 : Nat) : Int) nl n (setf f i 0 (ecells L[j])) pnl pn pf else slices_DeleteFunc_fdb_Entry_c94_L0_l0 k0 fuel (i : Int) ((j + 1 : Nat) : Int) nl n f pnl pn pf := by
      intro α k0
      show slices_DeleteFunc_fdb_Entry_c94_L0_s0 _ _ k0 (i : Int) (j : Int) nl n f pnl pn pf = _
      unfold slices_DeleteFunc_fdb_Entry_c94_L0_s0
      rw [dec_t (show (j : Int) < (n : Int) by omega), cond_true, inb_t (by omega) (by omega), cond_true, inb_t (by omega) (by omega), eset, Int.toNat_natCast, c2, hi, hri, i64_id (by omega) (by omega), i64_id (by omega) (by omega)]
      rfl
    have hage : flushL (hasP pf pn) (L.drop j) = bif !hasP pf pn L[j].port then L[j] :: flushL (hasP pf pn) (L.drop (j + 1)) else flushL (hasP pf pn) (L.drop (j + 1)) := by
      rw [hdr]
      unfold flushL
      rw [List.filter_cons]
      cases hasP pf pn L[j].port <;> rfl
    cases hx : hasP pf pn L[j].port with
    | false =>
      have hA' : EL (i + 1) (setf f i 0 (ecells L[j])) (A ++ [L[j]]) := by
        refine ⟨by rw [List.length_append, hA.n]; rfl, fun t ht c' hc => ?_⟩
        have hAn := hA.n
        rw [List.length_append, List.length_singleton] at ht
        rw [setf_ecells f i L[j] t c' hc]
        by_cases h1 : t = i
        · subst h1
          rw [if_pos rfl, List.getElem_append_right (by omega)]
          simp only [hAn, Nat.sub_self]
          rfl
        · rw [if_neg h1, List.getElem_append_left (by omega)]
          exact hA.r t (by omega) c' hc
      obtain ⟨i', f', hi', hE, he⟩ := flush_move hLn hn nl pnl pn pf hpn d (i + 1) (j + 1) fuel _ _ (by omega) (by omega) hA' (fun t h htj c' hc => by
        rw [setf_ecells f i L[j] t c' hc, if_neg (by omega)]
        exact hr t h (by omega) c' hc) (by omega)
      refine ⟨i', f', hi', ?_, fun {α} k0 => by rw [step, hx, Bool.not_false, cond_true]; exact he k0⟩
      rw [hage, hx]
      simpa using hE
    | true =>
      obtain ⟨i', f', hi', hE, he⟩ := flush_move hLn hn nl pnl pn pf hpn d i (j + 1) fuel f A (by omega) (by omega) hA (fun t h htj c' hc => hr t h (by omega) c' hc) (by omega)
      refine ⟨i', f', hi', ?_, fun {α} k0 => by rw [step, hx, Bool.not_true, cond_false]; exact he k0⟩
      rw [hage, hx]
      exact hE
theorem flush_one {n : Nat} {f : Nat → Nat → PV} {L : List En} (hL : EL n f L) (hn : n ≤ 1000000) (c : Int) (nl : Bool) (M : MapL) (hnl : nl = true → n = 0) (pnl : Bool) (pn : Nat) (pf : Nat → Nat → PV) (hpn : pn ≤ 1000000) : ∃ n' f', EL n' f' (flushL (hasP pf pn) L) ∧ (nl = true → n' = 0) ∧
    ∀ {α : Type} (kk : Int → Bool → Nat → (Nat → Nat → PV) → MapL → Bool → Nat → (Nat → Nat → PV) → Option α), fdb_Table_Flush c pnl pn pf M nl n f kk kk = kk c pnl pn pf M nl n' f' := by
  have hLn := hL.n
  rcases flush_find hL hn nl pnl pn pf hpn n 0 18446744073709551616 (by omega) (by omega) (fun j h hj => absurd hj (Nat.not_lt_zero j)) with ⟨p, hp, hpg, ha, he⟩ | ⟨ha, he⟩
  · have hr : ∀ t (h : t < L.length), p + 1 ≤ t → ∀ c', c' < 4 → f t c' = ecell L[t] c' := fun t h _ c' hc => hL.r t h c' hc
    obtain ⟨i', f', hi', hE, hm⟩ := flush_move hLn hn nl pnl pn pf hpn (n - (p + 1)) p (p + 1) 18446744073709551616 f (L.take p) (by omega) (by omega) (hL.take p (by omega)) hr (by omega)
    have hwp : IntKind.i64.wrap ((p : Int) + 1) = ((p + 1 : Nat) : Int) := by rw [i64_id (by omega) (by omega)]; rfl
    have hpn' : ((p : Int) == -1) = false := by
      cases hh : ((p : Int) == -1) with
      | false => rfl
      | true => have := eq_of_beq hh; omega
    refine ⟨i', e21 (i' : Int) n f', ?_, fun h => by have := hnl h; omega, fun {α} kk => ?_⟩
    · have e : flushL (hasP pf pn) L = L.take p ++ flushL (hasP pf pn) (L.drop (p + 1)) := by
        have h1 : flushL (hasP pf pn) L = flushL (hasP pf pn) (L.take p ++ L.drop p) := by rw [List.take_append_drop]
        rw [h1]
        unfold flushL
        rw [List.filter_append]
        congr 1
        · rw [List.filter_eq_self]
          intro e he
          obtain ⟨j, hj, rfl⟩ := List.getElem_of_mem he
          rw [List.length_take] at hj
          rw [List.getElem_take, ha j (by omega) (by omega)]
          rfl
        · rw [List.drop_eq_getElem_cons (by omega : p < L.length), List.filter_cons, hpg (by omega)]
          rfl
      rw [e]
      unfold e21
      exact hE.clr _ _ _ (by omega)
    · unfold fdb_Table_Flush fdb_Table_Flush_T slices_DeleteFunc_fdb_Entry_c94 slices_DeleteFunc_fdb_Entry_c94_T slices_IndexFunc_fdb_Entry_c94 slices_IndexFunc_fdb_Entry_c94_T slices_IndexFunc_fdb_Entry_c94_L0 slices_DeleteFunc_fdb_Entry_c94_L0
      refine Eq.trans (he _ _) ?_
      dsimp only
      rw [hpn', cond_false, hwp]
      refine Eq.trans (hm _) ?_
      rw [inb_t (by omega) (by omega), cond_true, dec_t (show (0 : Int) ≤ (i' : Int) by omega), dec_t (show (i' : Int) ≤ (n : Int) by omega), inb_t (by omega) (by omega), Int.toNat_natCast]
      rfl
  · refine ⟨n, f, ?_, hnl, fun {α} kk => ?_⟩
    · have : flushL (hasP pf pn) L = L := by
        unfold flushL
        rw [List.filter_eq_self]
        intro e he
        obtain ⟨j, hj, rfl⟩ := List.getElem_of_mem he
        rw [ha j hj]
        rfl
      rw [this]; exact hL
    · unfold fdb_Table_Flush fdb_Table_Flush_T slices_DeleteFunc_fdb_Entry_c94 slices_DeleteFunc_fdb_Entry_c94_T slices_IndexFunc_fdb_Entry_c94 slices_IndexFunc_fdb_Entry_c94_T slices_IndexFunc_fdb_Entry_c94_L0
      refine Eq.trans (he _ _) ?_
      rfl
def stAt (f : Nat → Nat → PV) (v m : Int) (j : Nat) : Bool := (numOf (f j 0) == m) && (numOf (f j 1) == v)
def stF (f : Nat → Nat → PV) (v m : Int) : Nat → Option Nat
  | 0 => none
  | n + 1 => match stF f v m n with | some j => some j | none => bif stAt f v m n then some n else none
theorem stF_succ (f : Nat → Nat → PV) (v m : Int) (n : Nat) : stF f v m (n + 1) = match stF f v m n with | some j => some j | none => bif stAt f v m n then some n else none := rfl
theorem stF_none {f : Nat → Nat → PV} {v m : Int} : ∀ {n : Nat}, stF f v m n = none ↔ ∀ j, j < n → stAt f v m j = false
  | 0 => ⟨fun _ j h => absurd h (Nat.not_lt_zero j), fun _ => rfl⟩
  | n + 1 => by
    have ih := stF_none (f := f) (v := v) (m := m) (n := n)
    rw [stF_succ]
    cases h : stF f v m n with
    | some j =>
      refine ⟨(fun h2 => nomatch h2), fun h2 => ?_⟩
      rw [ih.2 fun j hj => h2 j (by omega)] at h
      cases h
    | none =>
      have h1 := ih.1 h
      cases h2 : stAt f v m n with
      | true => exact ⟨(fun h3 => nomatch h3), fun h3 => by rw [h3 n (Nat.lt_succ_self n)] at h2; cases h2⟩
      | false => exact ⟨fun _ j hj => by
          rcases Nat.lt_succ_iff_lt_or_eq.1 hj with h3 | rfl
          · exact h1 j h3
          · exact h2, fun _ => rfl⟩
theorem stF_some {f : Nat → Nat → PV} {v m : Int} : ∀ {n r : Nat}, r < n → stAt f v m r = true → (∀ j, j < r → stAt f v m j = false) → stF f v m n = some r
  | n + 1, r, hr, h1, h2 => by
    rw [stF_succ]
    rcases Nat.lt_succ_iff_lt_or_eq.1 hr with h3 | rfl
    · rw [stF_some h3 h1 h2]
    · rw [stF_none.2 h2, h1]; rfl
theorem pvEq_tr {x y : PV} (h : pvEq x y = true) (z : PV) : pvEq z x = pvEq z y := by
  unfold pvEq at h
  split at h
  · have := eq_of_beq h
    subst this
    unfold pvEq
    cases z with
    | val v => cases v <;> rfl
    | sl => rfl
  · have := eq_of_beq h
    subst this
    rfl
  · have h2 := eq_of_beq h
    unfold pvEq
    cases z with
    | val v => cases v <;> simp [h2]
    | sl => rfl
  · cases h
theorem keyEq_tr : ∀ {k e : List PV} (h : keyEq k e = true) (k' : List PV), keyEq k' k = keyEq k' e
  | [], [], _, k' => rfl
  | [], y :: e, h, k' => nomatch h
  | x :: k, [], h, k' => nomatch h
  | x :: k, y :: e, h, [] => rfl
  | x :: k, y :: e, h, z :: k' => by
    have h1 : (pvEq x y && keyEq k e) = true := h
    rw [Bool.and_eq_true] at h1
    show (pvEq z x && keyEq k' k) = (pvEq z y && keyEq k' e)
    rw [pvEq_tr h1.1, keyEq_tr h1.2]
theorem pvEq_sy {x y : PV} (h : pvEq x y = true) : pvEq y x = true := by
  unfold pvEq at h
  split at h
  · have := eq_of_beq h
    subst this
    exact beq_self_eq_true _
  · have := eq_of_beq h
    subst this
    exact beq_self_eq_true _
  · have h2 := eq_of_beq h
    show (_ == _) = true
    rw [h2]
    exact beq_self_eq_true _
  · cases h
theorem keyEq_sym : ∀ {a b : List PV}, keyEq a b = true → keyEq b a = true
  | [], [], _ => rfl
  | [], y :: e, h => nomatch h
  | x :: k, [], h => nomatch h
  | x :: k, y :: e, h => by
    have h1 : (pvEq x y && keyEq k e) = true := h
    rw [Bool.and_eq_true] at h1
    show (pvEq y x && keyEq e k) = true
    rw [pvEq_sy h1.1, keyEq_sym h1.2]
    rfl
theorem mput_has (k v k' : List PV) : ∀ (l : MapL), mhas (mput l k v) k' = (keyEq k' k || mhas l k')
  | [] => rfl
  | e :: r => by
    show mhas (bif keyEq k e.1 then (k, v) :: r else e :: mput r k v) k' = (keyEq k' k || (keyEq k' e.1 || mhas r k'))
    cases h : keyEq k e.1 with
    | true =>
      rw [cond_true, ← keyEq_tr h k']
      show (keyEq k' k || mhas r k') = _
      cases keyEq k' k <;> rfl
    | false =>
      rw [cond_false]
      show (keyEq k' e.1 || mhas (mput r k v) k') = _
      rw [mput_has k v k' r]
      cases keyEq k' e.1 <;> cases keyEq k' k <;> rfl
theorem mput_get (k v k' : List PV) : ∀ (l : MapL), mget (mput l k v) k' = bif keyEq k' k then v else mget l k'
  | [] => rfl
  | e :: r => by
    show mget (bif keyEq k e.1 then (k, v) :: r else e :: mput r k v) k' = bif keyEq k' k then v else bif keyEq k' e.1 then e.2 else mget r k'
    cases h : keyEq k e.1 with
    | true =>
      rw [cond_true, ← keyEq_tr h k']
      show (bif keyEq k' k then v else mget r k') = _
      cases keyEq k' k <;> rfl
    | false =>
      rw [cond_false]
      show (bif keyEq k' e.1 then e.2 else mget (mput r k v) k') = _
      rw [mput_get k v k' r]
      cases h1 : keyEq k' e.1 with
      | false => rfl
      | true =>
        cases h2 : keyEq k' k with
        | false => rfl
        | true =>
          -- k' is e's key and k's: then k is e's
          exfalso
          have : keyEq k e.1 = true := by
            have a := keyEq_tr h1 k
            have b := keyEq_tr h2 k
            have c := keyEq_sym h2
            rw [← a, c]
          rw [h] at this; cases this
def skey (v m : Int) : List PV := [.val (.int .i64 v), .val (.int .u64 m)]
theorem stat_key (f : Nat → Nat → PV) (n : Nat) (v m : Int) : keyEq (skey v m) [.val (.int .i64 (numOf (f n 1))), .val (.int .u64 (numOf (f n 0)))] = stAt f v m n := by
  unfold skey stAt
  rw [keyEq2, Bool.and_comm]
  congr 1
  · by_cases h : m = numOf (f n 0)
    · rw [dec_t h, h, beq_self_eq_true]
    · rw [dec_f h]; exact (beq_eq_false_iff_ne.2 fun e => h e.symm).symm
  · by_cases h : v = numOf (f n 1)
    · rw [dec_t h, h, beq_self_eq_true]
    · rw [dec_f h]; exact (beq_eq_false_iff_ne.2 fun e => h e.symm).symm
theorem stat_has (f : Nat → Nat → PV) (v m : Int) : ∀ (n : Nat) (l : MapL), mhas (statL f n l) (skey v m) = ((stF f v m n).isSome || mhas l (skey v m))
  | 0, l => rfl
  | n + 1, l => by
    show mhas (statL f n (mput l _ _)) (skey v m) = _
    rw [stat_has f v m n, mput_has, stat_key, stF_succ]
    cases stF f v m n with
    | some j => rfl
    | none => cases stAt f v m n <;> rfl
theorem stat_cell (f : Nat → Nat → PV) (v m : Int) : ∀ (n : Nat) (l : MapL), mget (statL f n l) (skey v m) = match stF f v m n with | some j => [.val (.int .i64 (numOf (f j 2)))] | none => mget l (skey v m)
  | 0, l => rfl
  | n + 1, l => by
    show mget (statL f n (mput l _ _)) (skey v m) = _
    rw [stat_cell f v m n, mput_get, stat_key, stF_succ]
    cases stF f v m n with
    | some j => rfl
    | none => cases stAt f v m n <;> rfl
theorem rhas_loop {sn : Nat} (hsn : sn ≤ 1000000) (sf : Nat → Nat → PV) (m v c : Int) (snl lnl : Bool) (n : Nat) (f : Nat → Nat → PV) : ∀ (d i fuel : Nat), i + d = sn → d < fuel → (∀ j, j < i → stAt sf v m j = false) →
    (∃ r, stF sf v m sn = some r ∧ ∀ {α : Type} (k0 k1 : Int → Bool → Nat → (Nat → Nat → PV) → Bool → Nat → (Nat → Nat → PV) → Option α), ref18_Table_has_L0_l0 k0 k1 fuel m v (i : Int) c snl sn sf lnl n f = k0 c snl sn sf lnl n f) ∨
    (stF sf v m sn = none ∧ ∀ {α : Type} (k0 k1 : Int → Bool → Nat → (Nat → Nat → PV) → Bool → Nat → (Nat → Nat → PV) → Option α), ref18_Table_has_L0_l0 k0 k1 fuel m v (i : Int) c snl sn sf lnl n f = k1 c snl sn sf lnl n f)
  | 0, i, fuel + 1, hd, hf, ha => by
    obtain rfl : i = sn := by omega
    refine .inr ⟨stF_none.2 ha, fun {α} k0 k1 => ?_⟩
    show ref18_Table_has_L0_s0 _ k0 k1 m v (i : Int) c snl i sf lnl n f = _
    unfold ref18_Table_has_L0_s0
    rw [dec_f (Int.lt_irrefl _), cond_false]
  | d + 1, i, fuel + 1, hd, hf, ha => by
    have step : ∀ {α : Type} (k0 k1 : Int → Bool → Nat → (Nat → Nat → PV) → Bool → Nat → (Nat → Nat → PV) → Option α), ref18_Table_has_L0_l0 k0 k1 (fuel + 1) m v (i : Int) c snl sn sf lnl n f = bif stAt sf v m i then k0 c snl sn sf lnl n f else ref18_Table_has_L0_l0 k0 k1 fuel m v ((i + 1 : Nat) : Int) c snl sn sf lnl n f := by
      intro α k0 k1
      show ref18_Table_has_L0_s0 _ k0 k1 m v (i : Int) c snl sn sf lnl n f = _
      unfold ref18_Table_has_L0_s0 stAt
      rw [dec_t (by omega), cond_true, inb_t (by omega) (by omega), cond_true, cond_true, Int.toNat_natCast, i64_id (by omega) (by omega)]
      cases (numOf (sf i 0)) == m <;> rfl
    cases hx : stAt sf v m i with
    | true => exact .inl ⟨i, stF_some (by omega) hx ha, fun {α} k0 k1 => by rw [step, hx]; rfl⟩
    | false =>
      rcases rhas_loop hsn sf m v c snl lnl n f d (i + 1) fuel (by omega) (by omega) (fun j hj => by
        rcases Nat.lt_succ_iff_lt_or_eq.1 hj with h3 | rfl
        · exact ha j h3
        · exact hx) with ⟨r, hr, he⟩ | ⟨hr, he⟩
      · exact .inl ⟨r, hr, fun {α} k0 k1 => by rw [step, hx]; exact he k0 k1⟩
      · exact .inr ⟨hr, fun {α} k0 k1 => by rw [step, hx]; exact he k0 k1⟩
theorem rhas_yes {sn : Nat} (hsn : sn ≤ 1000000) (sf : Nat → Nat → PV) (m v c : Int) (snl lnl : Bool) (n : Nat) (f : Nat → Nat → PV) {r : Nat} (h : stF sf v m sn = some r) {α : Type} (k0 k1 : Int → Bool → Nat → (Nat → Nat → PV) → Bool → Nat → (Nat → Nat → PV) → Option α) :
    ref18_Table_has m v c snl sn sf lnl n f k0 k1 = k0 c snl sn sf lnl n f := by
  unfold ref18_Table_has ref18_Table_has_T ref18_Table_has_L0
  rcases rhas_loop hsn sf m v c snl lnl n f sn 0 18446744073709551616 (by omega) (by omega) (fun j hj => absurd hj (Nat.not_lt_zero j)) with ⟨_, _, he⟩ | ⟨hr, _⟩
  · exact he _ _
  · rw [h] at hr; cases hr
theorem rhas_no {sn : Nat} (hsn : sn ≤ 1000000) (sf : Nat → Nat → PV) (m v c : Int) (snl lnl : Bool) (n : Nat) (f : Nat → Nat → PV) (h : stF sf v m sn = none) {α : Type} (k0 k1 : Int → Bool → Nat → (Nat → Nat → PV) → Bool → Nat → (Nat → Nat → PV) → Option α) :
    ref18_Table_has m v c snl sn sf lnl n f k0 k1 = k1 c snl sn sf lnl n f := by
  unfold ref18_Table_has ref18_Table_has_T ref18_Table_has_L0
  rcases rhas_loop hsn sf m v c snl lnl n f sn 0 18446744073709551616 (by omega) (by omega) (fun j hj => absurd hj (Nat.not_lt_zero j)) with ⟨_, hr, _⟩ | ⟨_, he⟩
  · rw [h] at hr; cases hr
  · exact he _ _
theorem rstat_loop {sn : Nat} (hsn : sn ≤ 1000000) (sf : Nat → Nat → PV) (m v c : Int) (snl lnl : Bool) (n : Nat) (f : Nat → Nat → PV) {r : Nat} (hr : stF sf v m sn = some r) : ∀ (d i fuel : Nat), i + d = sn → d < fuel → (∀ j, j < i → stAt sf v m j = false) →
    ∀ {α : Type} (k0 : Int → Int → Bool → Nat → (Nat → Nat → PV) → Bool → Nat → (Nat → Nat → PV) → Option α) (k1 : Int → Bool → Nat → (Nat → Nat → PV) → Bool → Nat → (Nat → Nat → PV) → Option α), ref18_Table_Static_L0_l0 k0 k1 fuel m v (i : Int) c snl sn sf lnl n f = k0 (numOf (sf r 2)) c snl sn sf lnl n f
  | 0, i, fuel + 1, hd, hf, ha, α, k0, k1 => by
    obtain rfl : i = sn := by omega
    rw [stF_none.2 ha] at hr; cases hr
  | d + 1, i, fuel + 1, hd, hf, ha, α, k0, k1 => by
    have step : ref18_Table_Static_L0_l0 k0 k1 (fuel + 1) m v (i : Int) c snl sn sf lnl n f = bif stAt sf v m i then k0 (numOf (sf i 2)) c snl sn sf lnl n f else ref18_Table_Static_L0_l0 k0 k1 fuel m v ((i + 1 : Nat) : Int) c snl sn sf lnl n f := by
      show ref18_Table_Static_L0_s0 _ k0 k1 m v (i : Int) c snl sn sf lnl n f = _
      unfold ref18_Table_Static_L0_s0 stAt
      rw [dec_t (by omega), cond_true, inb_t (by omega) (by omega), cond_true, cond_true, cond_true, Int.toNat_natCast, i64_id (by omega) (by omega)]
      cases (numOf (sf i 0)) == m <;> rfl
    cases hx : stAt sf v m i with
    | true =>
      rw [stF_some (by omega) hx ha] at hr
      cases hr
      rw [step, hx]; rfl
    | false =>
      rw [step, hx]
      exact rstat_loop hsn sf m v c snl lnl n f hr d (i + 1) fuel (by omega) (by omega) (fun j hj => by
        rcases Nat.lt_succ_iff_lt_or_eq.1 hj with h3 | rfl
        · exact ha j h3
        · exact hx) k0 k1
theorem rat_loop {n : Nat} {f : Nat → Nat → PV} {L : List En} (hL : EL n f L) (hs : Srt L) (hn : n ≤ 1000000) (m v c : Int) (snl lnl : Bool) (sn : Nat) (sf : Nat → Nat → PV) : ∀ (d i fuel : Nat), i + d = n → d < fuel → (∀ j (h : j < L.length), j < i → ¬ (L[j].vlan = v ∧ L[j].mac = m)) →
    (hasK L v m = true ∧ ∀ {α : Type} (k0 : Int → Int → Bool → Nat → (Nat → Nat → PV) → Bool → Nat → (Nat → Nat → PV) → Option α) (k1 : Int → Bool → Nat → (Nat → Nat → PV) → Bool → Nat → (Nat → Nat → PV) → Option α), ref18_Table_at_L0_l0 k0 k1 fuel m v (i : Int) c snl sn sf lnl n f = k0 (pos L v m : Int) c snl sn sf lnl n f) ∨
    (hasK L v m = false ∧ ∀ {α : Type} (k0 : Int → Int → Bool → Nat → (Nat → Nat → PV) → Bool → Nat → (Nat → Nat → PV) → Option α) (k1 : Int → Bool → Nat → (Nat → Nat → PV) → Bool → Nat → (Nat → Nat → PV) → Option α), ref18_Table_at_L0_l0 k0 k1 fuel m v (i : Int) c snl sn sf lnl n f = k1 c snl sn sf lnl n f)
  | 0, i, fuel + 1, hd, hf, ha => by
    have hLn := hL.n
    obtain rfl : i = n := by omega
    refine .inr ⟨hasK_ff.2 fun e he => ?_, fun {α} k0 k1 => ?_⟩
    · obtain ⟨j, hj, rfl⟩ := List.getElem_of_mem he
      exact ha j hj (by omega)
    · show ref18_Table_at_L0_s0 _ k0 k1 m v (i : Int) c snl sn sf lnl i f = _
      unfold ref18_Table_at_L0_s0
      rw [dec_f (Int.lt_irrefl _), cond_false]
  | d + 1, i, fuel + 1, hd, hf, ha => by
    have hLn := hL.n
    have hlt : i < L.length := by omega
    have step : ∀ {α : Type} (k0 : Int → Int → Bool → Nat → (Nat → Nat → PV) → Bool → Nat → (Nat → Nat → PV) → Option α) (k1 : Int → Bool → Nat → (Nat → Nat → PV) → Bool → Nat → (Nat → Nat → PV) → Option α), ref18_Table_at_L0_l0 k0 k1 (fuel + 1) m v (i : Int) c snl sn sf lnl n f = bif (L[i].mac == m) && (L[i].vlan == v) then k0 (i : Int) c snl sn sf lnl n f else ref18_Table_at_L0_l0 k0 k1 fuel m v ((i + 1 : Nat) : Int) c snl sn sf lnl n f := by
      intro α k0 k1
      show ref18_Table_at_L0_s0 _ k0 k1 m v (i : Int) c snl sn sf lnl n f = _
      unfold ref18_Table_at_L0_s0
      rw [dec_t (by omega), cond_true, inb_t (by omega) (by omega), cond_true, cond_true, Int.toNat_natCast, hL.mac hlt, hL.vlan hlt, i64_id (by omega) (by omega)]
      cases L[i].mac == m <;> rfl
    cases hx : (L[i].mac == m) && (L[i].vlan == v) with
    | true =>
      have h2 : L[i].vlan = v ∧ L[i].mac = m := by
        rw [Bool.and_eq_true] at hx
        exact ⟨eq_of_beq hx.2, eq_of_beq hx.1⟩
      exact .inl ⟨pos_has hlt h2, fun {α} k0 k1 => by rw [step, hx, pos_at hs hlt h2]; rfl⟩
    | false =>
      have h2 : ¬ (L[i].vlan = v ∧ L[i].mac = m) := fun ⟨a, b⟩ => by
        rw [a, b, beq_self_eq_true, beq_self_eq_true] at hx; cases hx
      rcases rat_loop hL hs hn m v c snl lnl sn sf d (i + 1) fuel (by omega) (by omega) (fun j h hj => by
        rcases Nat.lt_succ_iff_lt_or_eq.1 hj with h3 | rfl
        · exact ha j h h3
        · exact h2) with ⟨hr, he⟩ | ⟨hr, he⟩
      · exact .inl ⟨hr, fun {α} k0 k1 => by rw [step, hx]; exact he k0 k1⟩
      · exact .inr ⟨hr, fun {α} k0 k1 => by rw [step, hx]; exact he k0 k1⟩
theorem rat_eq {n : Nat} {f : Nat → Nat → PV} {L : List En} (hL : EL n f L) (hs : Srt L) (hn : n ≤ 1000000) (m v c : Int) (snl lnl : Bool) (sn : Nat) (sf : Nat → Nat → PV) {α : Type} (k0 : Int → Int → Bool → Nat → (Nat → Nat → PV) → Bool → Nat → (Nat → Nat → PV) → Option α) :
    ref18_Table_at m v c snl sn sf lnl n f k0 = k0 (bif hasK L v m then (pos L v m : Int) else -1) c snl sn sf lnl n f := by
  unfold ref18_Table_at ref18_Table_at_T ref18_Table_at_L0
  rcases rat_loop hL hs hn m v c snl lnl sn sf n 0 18446744073709551616 (by have := hL.n; omega) (by omega) (fun j _ hj => absurd hj (Nat.not_lt_zero j)) with ⟨hr, he⟩ | ⟨hr, he⟩
  · rw [hr]; exact he _ _
  · rw [hr]; exact he _ _
theorem rlook_static {sn : Nat} (hsn : sn ≤ 1000000) (sf : Nat → Nat → PV) (m v c : Int) (snl lnl : Bool) (n : Nat) (f : Nat → Nat → PV) {r : Nat} (h : stF sf v m sn = some r) {α : Type} (k0 : Int → Int → Bool → Nat → (Nat → Nat → PV) → Bool → Nat → (Nat → Nat → PV) → Option α) (k1 : Int → Bool → Nat → (Nat → Nat → PV) → Bool → Nat → (Nat → Nat → PV) → Option α) :
    ref18_Table_Look m v c snl sn sf lnl n f k0 k1 = k0 (numOf (sf r 2)) c snl sn sf lnl n f := by
  unfold ref18_Table_Look ref18_Table_Look_T
  rw [rhas_yes hsn sf m v c snl lnl n f h]
  unfold ref18_Table_Static ref18_Table_Static_T ref18_Table_Static_L0
  exact rstat_loop hsn sf m v c snl lnl n f h sn 0 18446744073709551616 (by omega) (by omega) (fun j hj => absurd hj (Nat.not_lt_zero j)) _ _
theorem rlook_some {n : Nat} {f : Nat → Nat → PV} {L : List En} (hL : EL n f L) (hs : Srt L) (hn : n ≤ 1000000) {sn : Nat} (hsn : sn ≤ 1000000) (sf : Nat → Nat → PV) {m v : Int} (c : Int) (snl lnl : Bool) (h : stF sf v m sn = none) {e : En} (hf : findL L v m = some e) {α : Type} (k0 : Int → Int → Bool → Nat → (Nat → Nat → PV) → Bool → Nat → (Nat → Nat → PV) → Option α) (k1 : Int → Bool → Nat → (Nat → Nat → PV) → Bool → Nat → (Nat → Nat → PV) → Option α) :
    ref18_Table_Look m v c snl sn sf lnl n f k0 k1 = k0 e.port c snl sn sf lnl n f := by
  have hLn := hL.n
  obtain ⟨he, hk⟩ := (findL_some hs).1 hf
  have hh : hasK L v m = true := hasK_iff.2 ⟨e, he, hk⟩
  obtain ⟨hp, hq⟩ := has_pos hs hh
  have : L[pos L v m] = e := srt_uniq hs (List.getElem_mem hp) he ⟨hq.1.trans hk.1.symm, hq.2.trans hk.2.symm⟩
  unfold ref18_Table_Look ref18_Table_Look_T
  rw [rhas_no hsn sf m v c snl lnl n f h, rat_eq hL hs hn, hh, cond_true, dec_t (by omega), cond_true, inb_t (by omega) (by omega), cond_true, Int.toNat_natCast, hL.port hp, this]
theorem rlook_none {n : Nat} {f : Nat → Nat → PV} {L : List En} (hL : EL n f L) (hs : Srt L) (hn : n ≤ 1000000) {sn : Nat} (hsn : sn ≤ 1000000) (sf : Nat → Nat → PV) {m v : Int} (c : Int) (snl lnl : Bool) (h : stF sf v m sn = none) (hf : findL L v m = none) {α : Type} (k0 : Int → Int → Bool → Nat → (Nat → Nat → PV) → Bool → Nat → (Nat → Nat → PV) → Option α) (k1 : Int → Bool → Nat → (Nat → Nat → PV) → Bool → Nat → (Nat → Nat → PV) → Option α) :
    ref18_Table_Look m v c snl sn sf lnl n f k0 k1 = k1 c snl sn sf lnl n f := by
  unfold ref18_Table_Look ref18_Table_Look_T
  rw [rhas_no hsn sf m v c snl lnl n f h, rat_eq hL hs hn, findL_none.1 hf, cond_false]
  rfl
theorem rold_loop {n : Nat} {f : Nat → Nat → PV} {L : List En} (hL : EL n f L) (hn : n ≤ 1000000) (c : Int) (snl lnl : Bool) (sn : Nat) (sf : Nat → Nat → PV) (m v p c' : Int) : ∀ (d i fuel : Nat), i + d = n → d < fuel → ∀ {α : Type} (k0 : Int → Int → Bool → Nat → (Nat → Nat → PV) → Bool → Nat → (Nat → Nat → PV) → Int → Int → Int → Int → Option α),
    ref18_Table_Learn_L0_l0 k0 fuel (oldN L i : Int) (i : Int) c snl sn sf lnl n f m v p c' = k0 (oldN L n : Int) c snl sn sf lnl n f m v p c'
  | 0, i, fuel + 1, hd, hf, α, k0 => by
    obtain rfl : i = n := by omega
    show ref18_Table_Learn_L0_s0 _ k0 (oldN L i : Int) (i : Int) c snl sn sf lnl i f m v p c' = _
    unfold ref18_Table_Learn_L0_s0
    rw [dec_f (Int.lt_irrefl _), cond_false]
  | d + 1, i, fuel + 1, hd, hf, α, k0 => by
    have hLn := hL.n
    have hlt : i < L.length := by omega
    have ho : oldN L i < L.length := by
      cases i with
      | zero => exact hlt
      | succ i => have := oldN_lt L (i + 1) (by omega); omega
    show ref18_Table_Learn_L0_s0 _ k0 (oldN L i : Int) (i : Int) c snl sn sf lnl n f m v p c' = _
    unfold ref18_Table_Learn_L0_s0
    rw [dec_t (by omega), cond_true, inb_t (by omega) (by omega), cond_true, inb_t (by omega) (by omega), cond_true, Int.toNat_natCast, Int.toNat_natCast, hL.seen hlt, hL.seen ho, i64_id (by omega) (by omega)]
    have hstep : oldN L (i + 1) = bif decide (L[i].seen < L[oldN L i].seen) then i else oldN L i := by
      show (bif decide ((L.getD i enz).seen < (L.getD (oldN L i) enz).seen) then i else oldN L i) = _
      rw [List.getD_eq_getElem?_getD, List.getElem?_eq_getElem hlt, List.getD_eq_getElem?_getD, List.getElem?_eq_getElem ho]
      rfl
    have ih := rold_loop hL hn c snl lnl sn sf m v p c' d (i + 1) fuel (by omega) (by omega) k0
    rw [hstep] at ih
    cases hx : decide (L[i].seen < L[oldN L i].seen) with
    | true => rw [hx, cond_true] at ih; rw [cond_true]; exact ih
    | false => rw [hx, cond_false] at ih; rw [cond_false]; exact ih
theorem rold_eq {n : Nat} {f : Nat → Nat → PV} {L : List En} (hL : EL n f L) (hn : n ≤ 1000000) (c : Int) (snl lnl : Bool) (sn : Nat) (sf : Nat → Nat → PV) (m v p c' : Int) {α : Type} (k0 : Int → Int → Bool → Nat → (Nat → Nat → PV) → Bool → Nat → (Nat → Nat → PV) → Int → Int → Int → Int → Option α) :
    ref18_Table_Learn_L0 c snl sn sf lnl n f m v p c' k0 = k0 (oldN L n : Int) c snl sn sf lnl n f m v p c' := by
  unfold ref18_Table_Learn_L0
  have h := rold_loop hL hn c snl lnl sn sf m v p c' n 0 18446744073709551616 (by omega) (by omega) k0
  rw [show (oldN L 0 : Int) = 0 from rfl] at h
  exact h
theorem rless_eq (e : En) (m v p c : Int) {α : Type} (k0 : Bool → Option α) : ref18_less e.mac e.vlan e.port e.seen m v p c k0 = k0 (kl e v m) := by
  unfold ref18_less ref18_less_T kl
  cases decide (e.vlan < v) with
  | true => rfl
  | false =>
    rw [cond_false]
    by_cases h : e.vlan = v
    · rw [h, beq_self_eq_true, dec_t rfl]; rfl
    · rw [dec_f h, beq_eq_false_iff_ne.2 h]; rfl
theorem rpos_step {L : List En} (hs : Srt L) (v m : Int) {i : Nat} (hi : i ≤ pos L v m) (hlt : i < L.length) : (kl L[i] v m = true ∧ i + 1 ≤ pos L v m) ∨ (kl L[i] v m = false ∧ i = pos L v m) := by
  have hc := cut_pos hs v m
  rcases Nat.lt_or_ge i (pos L v m) with h | h
  · exact .inl ⟨hc.lo i hlt h, h⟩
  · exact .inr ⟨hc.hi i hlt h, by omega⟩
theorem rless_loop {n1 : Nat} {f1 : Nat → Nat → PV} {L : List En} (hL : EL n1 f1 L) (hs : Srt L) (hn : n1 ≤ 1000000) (c : Int) (snl lnl : Bool) (sn n : Nat) (sf f : Nat → Nat → PV) (m v p c' : Int) : ∀ (d i fuel : Nat), i + d = n1 → d < fuel → i ≤ pos L v m → ∀ {α : Type} (k0 : Int → Int → Bool → Nat → (Nat → Nat → PV) → Bool → Nat → (Nat → Nat → PV) → Int → Int → Int → Int → Nat → (Nat → Nat → PV) → Option α),
    ref18_Table_Learn_L2_l0 k0 fuel (i : Int) c snl sn sf lnl n f m v p c' n1 f1 = k0 (pos L v m : Int) c snl sn sf lnl n f m v p c' n1 f1
  | 0, i, fuel + 1, hd, hf, hi, α, k0 => by
    have hLn := hL.n
    have hp := (cut_pos hs v m).le
    obtain rfl : i = n1 := by omega
    show ref18_Table_Learn_L2_s0 _ _ k0 (i : Int) c snl sn sf lnl n f m v p c' i f1 = _
    unfold ref18_Table_Learn_L2_s0
    rw [dec_f (Int.lt_irrefl _), cond_false, show pos L v m = i by omega]
  | d + 1, i, fuel + 1, hd, hf, hi, α, k0 => by
    have hLn := hL.n
    have hlt : i < L.length := by omega
    show ref18_Table_Learn_L2_s0 _ _ k0 (i : Int) c snl sn sf lnl n f m v p c' n1 f1 = _
    unfold ref18_Table_Learn_L2_s0
    rw [dec_t (by omega), cond_true, inb_t (by omega) (by omega), cond_true, Int.toNat_natCast, hL.mac hlt, hL.vlan hlt, hL.port hlt, hL.seen hlt, rless_eq, i64_id (by omega) (by omega)]
    rcases rpos_step hs v m hi hlt with ⟨h1, h2⟩ | ⟨h1, h2⟩
    · rw [h1, cond_true]
      exact rless_loop hL hs hn c snl lnl sn n sf f m v p c' d (i + 1) fuel (by omega) (by omega) h2 k0
    · rw [h1, cond_false, h2]
theorem rless1_loop {n : Nat} {f : Nat → Nat → PV} {L : List En} (hL : EL n f L) (hs : Srt L) (hn : n ≤ 1000000) (c : Int) (snl lnl : Bool) (sn : Nat) (sf : Nat → Nat → PV) (m v p c' : Int) : ∀ (d i fuel : Nat), i + d = n → d < fuel → i ≤ pos L v m → ∀ {α : Type} (k0 : Int → Int → Bool → Nat → (Nat → Nat → PV) → Bool → Nat → (Nat → Nat → PV) → Int → Int → Int → Int → Option α),
    ref18_Table_Learn_L2_v1_l0 k0 fuel (i : Int) c snl sn sf lnl n f m v p c' = k0 (pos L v m : Int) c snl sn sf lnl n f m v p c'
  | 0, i, fuel + 1, hd, hf, hi, α, k0 => by
    have hLn := hL.n
    have hp := (cut_pos hs v m).le
    obtain rfl : i = n := by omega
    show ref18_Table_Learn_L2_v1_s0 _ _ k0 (i : Int) c snl sn sf lnl i f m v p c' = _
    unfold ref18_Table_Learn_L2_v1_s0
    rw [dec_f (Int.lt_irrefl _), cond_false, show pos L v m = i by omega]
  | d + 1, i, fuel + 1, hd, hf, hi, α, k0 => by
    have hLn := hL.n
    have hlt : i < L.length := by omega
    show ref18_Table_Learn_L2_v1_s0 _ _ k0 (i : Int) c snl sn sf lnl n f m v p c' = _
    unfold ref18_Table_Learn_L2_v1_s0
    rw [dec_t (by omega), cond_true, inb_t (by omega) (by omega), cond_true, Int.toNat_natCast, hL.mac hlt, hL.vlan hlt, hL.port hlt, hL.seen hlt, rless_eq, i64_id (by omega) (by omega)]
    rcases rpos_step hs v m hi hlt with ⟨h1, h2⟩ | ⟨h1, h2⟩
    · rw [h1, cond_true]
      exact rless1_loop hL hs hn c snl lnl sn sf m v p c' d (i + 1) fuel (by omega) (by omega) h2 k0
    · rw [h1, cond_false, h2]
theorem rless_run {n1 : Nat} {f1 : Nat → Nat → PV} {L : List En} (hL : EL n1 f1 L) (hs : Srt L) (hn : n1 ≤ 1000000) (c : Int) (snl lnl : Bool) (sn n : Nat) (sf f : Nat → Nat → PV) (m v p c' : Int) {α : Type} (k0 : Int → Int → Bool → Nat → (Nat → Nat → PV) → Bool → Nat → (Nat → Nat → PV) → Int → Int → Int → Int → Nat → (Nat → Nat → PV) → Option α) :
    ref18_Table_Learn_L2 c snl sn sf lnl n f m v p c' n1 f1 k0 = k0 (pos L v m : Int) c snl sn sf lnl n f m v p c' n1 f1 := by
  unfold ref18_Table_Learn_L2
  exact rless_loop hL hs hn c snl lnl sn n sf f m v p c' n1 0 18446744073709551616 (by omega) (by omega) (Nat.zero_le _) k0
theorem rless1_run {n : Nat} {f : Nat → Nat → PV} {L : List En} (hL : EL n f L) (hs : Srt L) (hn : n ≤ 1000000) (c : Int) (snl lnl : Bool) (sn : Nat) (sf : Nat → Nat → PV) (m v p c' : Int) {α : Type} (k0 : Int → Int → Bool → Nat → (Nat → Nat → PV) → Bool → Nat → (Nat → Nat → PV) → Int → Int → Int → Int → Option α) :
    ref18_Table_Learn_L2_v1 c snl sn sf lnl n f m v p c' k0 = k0 (pos L v m : Int) c snl sn sf lnl n f m v p c' := by
  unfold ref18_Table_Learn_L2_v1
  exact rless1_loop hL hs hn c snl lnl sn sf m v p c' n 0 18446744073709551616 (by omega) (by omega) (Nat.zero_le _) k0
theorem el_put {n : Nat} {f : Nat → Nat → PV} {L : List En} (h : EL n f L) (i : Nat) (hi : i ≤ n) (m v p c : Int) : EL (((0 + (i : Int).toNat) + 1) + (n - (i : Int).toNat)) (e17 (i : Int) f m v p c) (putAt L i ⟨m, v, p, c⟩) := by
  unfold e17
  rw [catf_zero, Nat.zero_add, Int.toNat_natCast]
  have := ((h.take i hi).cat (EL.one ⟨m, v, p, c⟩)).cat (h.drop i)
  rw [List.append_assoc] at this
  exact this
theorem el_del {n : Nat} {f : Nat → Nat → PV} {L : List En} (h : EL n f L) (i : Nat) (hi : i < n) (hn : n ≤ 1000000) : EL ((0 + (i : Int).toNat) + (n - ((IntKind.i64.wrap ((i : Int) + 1)).toNat))) (e15 (i : Int) f) (L.eraseIdx i) := by
  unfold e15
  rw [catf_zero, Nat.zero_add, Int.toNat_natCast, i64_id (by omega) (by omega), List.eraseIdx_eq_take_drop_succ, show ((i : Int) + 1).toNat = i + 1 by omega]
  exact (h.take i (by omega)).cat (h.drop (i + 1))
theorem rlearn_no {sn : Nat} (hsn : sn ≤ 1000000) (sf : Nat → Nat → PV) {m v p : Int} (c : Int) (h : gd m v p = false ∨ ∃ r, stF sf v m sn = some r) (snl lnl : Bool) (n : Nat) (f : Nat → Nat → PV) {α : Type} (k0 k1 : Int → Bool → Nat → (Nat → Nat → PV) → Bool → Nat → (Nat → Nat → PV) → Option α) (k2 : Int → Bool → Nat → (Nat → Nat → PV) → Bool → Nat → (Nat → Nat → PV) → Nat → (Nat → Nat → PV) → Option α) :
    ref18_Table_Learn m v p c snl sn sf lnl n f k0 k1 k2 = k0 c snl sn sf lnl n f := by
  unfold ref18_Table_Learn ref18_Table_Learn_T ref09_Group ref09_Group_T
  unfold gd at h
  rw [show decide (v > 4094) = decide (v ≥ 4095) from decide_eq_decide.2 (by omega), show decide (p > 7) = decide (p ≥ 8) from decide_eq_decide.2 (by omega)]
  revert h
  cases (m == 0) with
  | true => intro _; rfl
  | false =>
  cases decide (m < 281474976710656) with
  | false => intro _; rfl
  | true =>
  cases ((bits .and .u64 (shrI .u64 m 40) 1) == 1) with
  | true => intro _; rfl
  | false =>
  cases decide (v < 1) with
  | true => intro _; rfl
  | false =>
  cases decide (v ≥ 4095) with
  | true => intro _; rfl
  | false =>
  cases decide (p < 0) with
  | true => intro _; rfl
  | false =>
  cases decide (p ≥ 8) with
  | true => intro _; rfl
  | false =>
  intro h
  rcases h with h | ⟨r, h⟩
  · cases h
  · simp only [Bool.not_true, cond_true, cond_false]
    exact rhas_yes hsn sf m v c snl lnl n f h _ _
theorem rlearn_start {n : Nat} {f : Nat → Nat → PV} {L : List En} (hL : EL n f L) (hs : Srt L) (hn : n ≤ 32) {sn : Nat} (hsn : sn ≤ 1000000) (sf : Nat → Nat → PV) {m v p : Int} (c : Int) (hg : gd m v p = true) (hS : stF sf v m sn = none) (snl lnl : Bool) {α : Type} (k0 k1 : Int → Bool → Nat → (Nat → Nat → PV) → Bool → Nat → (Nat → Nat → PV) → Option α) (k2 : Int → Bool → Nat → (Nat → Nat → PV) → Bool → Nat → (Nat → Nat → PV) → Nat → (Nat → Nat → PV) → Option α) :
    ref18_Table_Learn m v p c snl sn sf lnl n f k0 k1 k2 = bif hasK L v m then k1 c snl sn sf lnl n (e11 f (pos L v m : Int) m v p c)
      else bif decide ((n : Int) ≥ 32) then
     ref18_Table_Learn_L0 c snl sn sf lnl n f m v p c
      (fun r_27 r_28 r_29 r_30 r_31 r_32 r_33 r_34 r_35 r_36 r_37 r_38 => bif inb r_27 (r_33 + 1) then
       bif decide (0 ≤ r_27) then
        bif Nat.ble ((0 + r_27.toNat) * 32) bound then
         bif inb (r_33 : Int) (r_33 + 1) then
          bif (decide (0 ≤ IntKind.i64.wrap (r_27 + 1)) && decide (IntKind.i64.wrap (r_27 + 1) ≤ (r_33 : Int))) then
           bif Nat.ble (((0 + r_27.toNat) + (r_33 - ((IntKind.i64.wrap (r_27 + 1)).toNat))) * 32) bound then
            ref18_Table_Learn_L2 r_28 r_29 r_30 r_31 r_32 r_33 r_34 r_35 r_36 r_37 r_38 ((0 + r_27.toNat) + (r_33 - ((IntKind.i64.wrap (r_27 + 1)).toNat))) (e15 r_27 r_34)
             (fun r_39 r_40 r_41 r_42 r_43 r_44 r_45 r_46 r_47 r_48 r_49 r_50 r_51 r_52 => bif inb r_39 (r_51 + 1) then
              bif decide (0 ≤ r_39) then
               bif Nat.ble ((0 + r_39.toNat) * 32) bound then
                bif Nat.ble (((0 + r_39.toNat) + 1) * 32) bound then
                 bif inb (r_51 : Int) (r_51 + 1) then
                  bif (decide (0 ≤ r_39) && decide (r_39 ≤ (r_51 : Int))) then
                   bif Nat.ble ((((0 + r_39.toNat) + 1) + (r_51 - r_39.toNat)) * 32) bound then
                    k2 r_40 r_41 r_42 r_43 r_44 r_45 r_46 (((0 + r_39.toNat) + 1) + (r_51 - r_39.toNat)) (e17 r_39 r_52 r_47 r_48 r_49 r_50)
                   else none
                  else none
                 else none
                else none
               else none
              else none
             else none)
           else none
          else none
         else none
        else none
       else none
      else none)
    else ref18_Table_Learn_L2_v1 c snl sn sf lnl n f m v p c
     (fun r_27 r_28 r_29 r_30 r_31 r_32 r_33 r_34 r_35 r_36 r_37 r_38 => bif inb r_27 (r_33 + 1) then
      bif decide (0 ≤ r_27) then
       bif Nat.ble ((0 + r_27.toNat) * 32) bound then
        bif Nat.ble (((0 + r_27.toNat) + 1) * 32) bound then
         bif inb (r_33 : Int) (r_33 + 1) then
          bif (decide (0 ≤ r_27) && decide (r_27 ≤ (r_33 : Int))) then
           bif Nat.ble ((((0 + r_27.toNat) + 1) + (r_33 - r_27.toNat)) * 32) bound then
            k2 r_28 r_29 r_30 r_31 r_32 r_33 r_34 (((0 + r_27.toNat) + 1) + (r_33 - r_27.toNat)) (e17 r_27 r_34 r_35 r_36 r_37 r_38)
           else none
          else none
         else none
        else none
       else none
      else none
     else none) := by
  have hLn := hL.n
  unfold gd at hg
  simp only [Bool.and_eq_true, Bool.not_eq_true'] at hg
  obtain ⟨g1, g2, g3, g4, g5, g6, g7⟩ := hg
  rw [show decide (v ≥ 4095) = decide (v > 4094) from decide_eq_decide.2 (by omega)] at g5
  rw [show decide (p ≥ 8) = decide (p > 7) from decide_eq_decide.2 (by omega)] at g7
  unfold ref18_Table_Learn ref18_Table_Learn_T ref09_Group ref09_Group_T
  rw [g1, g2, g3, g4, g5, g6, g7]
  rw [Bool.not_true, cond_false, cond_false, cond_true]
  dsimp only
  rw [cond_false, cond_false, cond_false, cond_false, cond_false]
  rw [rhas_no hsn sf m v c snl lnl n f hS, rat_eq hL hs (by omega)]
  cases hh : hasK L v m with
  | true =>
    obtain ⟨hp, hk⟩ := has_pos hs hh
    rw [cond_true, cond_true, dec_t (by omega), cond_true, inb_t (by omega) (by omega), cond_true]
  | false =>
    rw [cond_false, cond_false, show decide ((-1 : Int) ≥ 0) = false from rfl, cond_false]
theorem rlearn_one {n : Nat} {f : Nat → Nat → PV} {L : List En} (hL : EL n f L) (hs : Srt L) (hn : n ≤ 32) {sn : Nat} (hsn : sn ≤ 1000000) (sf : Nat → Nat → PV) {m v p : Int} (c : Int) (hg : gd m v p = true) (hS : stF sf v m sn = none) (snl lnl : Bool) : ∃ nl' n' f', EL n' f' (learnL L ⟨m, v, p, c⟩) ∧
    ∀ {α : Type} (k0 kk : Int → Bool → Nat → (Nat → Nat → PV) → Bool → Nat → (Nat → Nat → PV) → Option α), ref18_Table_Learn m v p c snl sn sf lnl n f k0 kk (fun c1 s1 s2 s3 _ _ _ n1 f1 => kk c1 s1 s2 s3 false n1 f1) = kk c snl sn sf nl' n' f' := by
  have hLn := hL.n
  subst hLn
  have hb : ∀ k : Nat, k ≤ 100 → Nat.ble (k * 32) bound = true := fun k hk => bnd32 (by omega)
  unfold learnL
  cases hh : hasK L v m with
  | true =>
    rw [cond_true]
    obtain ⟨hp, hk⟩ := has_pos hs hh
    refine ⟨lnl, L.length, _, hL.set (pos L v m) ⟨m, v, p, c⟩, fun {α} k0 kk => ?_⟩
    rw [rlearn_start hL hs hn hsn sf c hg hS snl lnl, hh, cond_true]
    unfold e11
    rw [Int.toNat_natCast]
    rfl
  | false =>
    rw [cond_false]
    by_cases h32 : 32 ≤ L.length
    · rw [decide_eq_true h32, cond_true]
      have ho := oldN_lt L L.length (by omega)
      have hD := el_del hL (oldN L L.length) (by omega) (by omega)
      have hsD : Srt (L.eraseIdx (oldN L L.length)) := hs.sublist (List.eraseIdx_sublist _ _)
      have hDn := hD.n
      have hdl : (L.eraseIdx (oldN L L.length)).length ≤ 32 := by rw [List.length_eraseIdx]; split <;> omega
      have hpD := (cut_pos hsD v m).le
      refine ⟨false, _, _, el_put hD (pos (L.eraseIdx (oldN L L.length)) v m) (by omega) m v p c, fun {α} k0 kk => ?_⟩
      have hw : IntKind.i64.wrap ((oldN L L.length : Int) + 1) = (oldN L L.length : Int) + 1 := i64_id (by omega) (by omega)
      rw [rlearn_start hL hs hn hsn sf c hg hS snl lnl, hh, cond_false, dec_t (show (L.length : Int) ≥ 32 by omega), cond_true, rold_eq hL (by omega) c snl lnl sn sf m v p c]
      rw [inb_t (by omega) (by omega), cond_true, dec_t (by omega), cond_true, hb _ (by omega), cond_true, inb_t (by omega) (by omega), cond_true, dec_t (by rw [hw]; omega), dec_t (by rw [hw]; omega), Bool.and_true, cond_true, hb _ (by omega), cond_true]
      rw [rless_run hD hsD (by omega) c snl lnl sn L.length sf f m v p c]
      rw [inb_t (by omega) (by omega), cond_true, dec_t (by omega), cond_true, hb _ (by omega), cond_true, hb _ (by omega), cond_true, inb_t (by omega) (by omega), cond_true, dec_t (by omega), Bool.true_and, cond_true, hb _ (by omega), cond_true]
    · rw [decide_eq_false h32, cond_false]
      have hp := (cut_pos hs v m).le
      refine ⟨false, _, _, el_put hL (pos L v m) (by omega) m v p c, fun {α} k0 kk => ?_⟩
      rw [rlearn_start hL hs hn hsn sf c hg hS snl lnl, hh, cond_false, dec_f (show ¬ (L.length : Int) ≥ 32 by omega), cond_false, rless1_run hL hs (by omega) c snl lnl sn sf m v p c]
      rw [inb_t (by omega) (by omega), cond_true, dec_t (by omega), cond_true, hb _ (by omega), cond_true, hb _ (by omega), cond_true, inb_t (by omega) (by omega), cond_true, dec_t (by omega), Bool.true_and, cond_true, hb _ (by omega), cond_true]
theorem e23_eq {n : Nat} {f : Nat → Nat → PV} {L : List En} (hL : EL n f L) {i : Nat} (hlt : i < L.length) : e23 f (i : Int) = rowOf 4 (ecells L[i]) := by
  unfold e23
  rw [Int.toNat_natCast, hL.mac hlt, hL.vlan hlt, hL.port hlt, hL.seen hlt]
  rfl
theorem rtick_loop {n : Nat} {f : Nat → Nat → PV} {L : List En} {c : Int} (hL : EL n f L) (hT : TabOk c L) (snl lnl : Bool) (sn : Nat) (sf : Nat → Nat → PV) : ∀ (d i fuel : Nat) (onl : Bool) (on : Nat) (of : Nat → Nat → PV) (A : List En), i + d = n → d < fuel → EL on of A → on ≤ i → ∃ nl' n' f', EL n' f' (A ++ ageL c (L.drop i)) ∧
    ∀ {α : Type} (k0 : Int → Bool → Nat → (Nat → Nat → PV) → Bool → Nat → (Nat → Nat → PV) → Bool → Nat → (Nat → Nat → PV) → Option α), ref18_Table_Tick_L0_l0 k0 fuel (i : Int) c snl sn sf lnl n f onl on of = k0 c snl sn sf lnl n f nl' n' f'
  | 0, i, fuel + 1, onl, on, of, A, hd, hf, hA, ho => by
    have hLn := hL.n
    obtain rfl : i = n := by omega
    refine ⟨onl, on, of, ?_, fun {α} k0 => ?_⟩
    · rw [List.drop_eq_nil_of_le (by omega)]; show EL on of (A ++ []); rw [List.append_nil]; exact hA
    · show ref18_Table_Tick_L0_s0 _ k0 (i : Int) c snl sn sf lnl i f onl on of = _
      unfold ref18_Table_Tick_L0_s0
      rw [dec_f (Int.lt_irrefl _), cond_false]
  | d + 1, i, fuel + 1, onl, on, of, A, hd, hf, hA, ho => by
    have hLn := hL.n
    have hn := hT.n
    have hlt : i < L.length := by omega
    have hdr : L.drop i = L[i] :: L.drop (i + 1) := by rw [List.drop_eq_getElem_cons hlt]
    have hage : ageL c (L.drop i) = if c - L[i].seen < 300 then L[i] :: ageL c (L.drop (i + 1)) else ageL c (L.drop (i + 1)) := by
      rw [hdr]
      unfold ageL
      rw [List.filter_cons]
      simp only [decide_eq_true_eq]
    have h1 := hT.t _ (List.getElem_mem hlt)
    have h2 := hT.c1
    have step : ∀ {α : Type} (k0 : Int → Bool → Nat → (Nat → Nat → PV) → Bool → Nat → (Nat → Nat → PV) → Bool → Nat → (Nat → Nat → PV) → Option α), ref18_Table_Tick_L0_l0 k0 (fuel + 1) (i : Int) c snl sn sf lnl n f onl on of = bif decide (c - L[i].seen < 300) then ref18_Table_Tick_L0_l0 k0 fuel ((i + 1 : Nat) : Int) c snl sn sf lnl n f (onl && false) (on + 1) (catf on of (rowOf 4 (ecells L[i]))) else ref18_Table_Tick_L0_l0 k0 fuel ((i + 1 : Nat) : Int) c snl sn sf lnl n f onl on of := by
      intro α k0
      show ref18_Table_Tick_L0_s0 _ k0 (i : Int) c snl sn sf lnl n f onl on of = _
      unfold ref18_Table_Tick_L0_s0
      rw [dec_t (by omega), cond_true, inb_t (by omega) (by omega), cond_true, cond_true, bnd32 (by omega), cond_true, e23_eq hL hlt, Int.toNat_natCast, hL.seen hlt, i64_id (n := (i : Int) + 1) (by omega) (by omega), i64_id (n := c - L[i].seen) (by omega) (by omega)]
      rfl
    by_cases hx : c - L[i].seen < 300
    · obtain ⟨nl', n', f', hE, he⟩ := rtick_loop hL hT snl lnl sn sf d (i + 1) fuel (onl && false) (on + 1) _ (A ++ [L[i]]) (by omega) (by omega) (hA.snoc L[i]) (by omega)
      refine ⟨nl', n', f', ?_, fun {α} k0 => by rw [step, dec_t hx, cond_true]; exact he k0⟩
      rw [hage, if_pos hx]
      simpa using hE
    · obtain ⟨nl', n', f', hE, he⟩ := rtick_loop hL hT snl lnl sn sf d (i + 1) fuel onl on of A (by omega) (by omega) hA (by omega)
      refine ⟨nl', n', f', ?_, fun {α} k0 => by rw [step, dec_f hx, cond_false]; exact he k0⟩
      rw [hage, if_neg hx]
      exact hE
theorem rtick_one {n : Nat} {f : Nat → Nat → PV} {L : List En} {c : Int} (hL : EL n f L) (hT : TabOk c L) (snl lnl : Bool) (sn : Nat) (sf : Nat → Nat → PV) : ∃ nl' n' f', EL n' f' (tickL c L).2 ∧
    ∀ {α : Type} (kk : Int → Bool → Nat → (Nat → Nat → PV) → Bool → Nat → (Nat → Nat → PV) → Option α), ref18_Table_Tick c snl sn sf lnl n f kk (fun c1 s1 s2 s3 _ _ _ o1 o2 o3 => kk c1 s1 s2 s3 o1 o2 o3) = kk (tickL c L).1 snl sn sf nl' n' f' := by
  have hLn := hL.n
  have hc1 := hT.c1
  have hc0 := hT.c0
  unfold tickL
  by_cases hd : c ≥ 1073741824
  · refine ⟨lnl, n, f, by rw [dec_t hd]; exact hL, fun {α} kk => ?_⟩
    unfold ref18_Table_Tick ref18_Table_Tick_T
    rw [dec_t hd]
    rfl
  · have hT' := hT.up (by omega)
    rw [dec_f hd, cond_false]
    have hw : IntKind.i64.wrap (c + 1) = c + 1 := i64_id (by omega) (by omega)
    obtain ⟨nl', n', f', hE, he⟩ := rtick_loop hL hT' snl lnl sn sf n 0 18446744073709551616 true 0 (fun _ _ => .val undef) [] (by omega) (by have := hT.n; omega) (EL.nil _) (Nat.le_refl _)
    refine ⟨nl', n', f', hE, fun {α} kk => ?_⟩
    unfold ref18_Table_Tick ref18_Table_Tick_T
    rw [dec_f hd, cond_false, hw]
    unfold ref18_Table_Tick_L0
    exact he _
theorem rin_loop {pn : Nat} (hpn : pn ≤ 1000000) (pnl : Bool) (pf : Nat → Nat → PV) {n : Nat} {f : Nat → Nat → PV} {L : List En} (hL : EL n f L) (hn : n ≤ 1000000) {i : Nat} (hlt : i < L.length) (c : Int) (snl lnl onl : Bool) (sn on : Nat) (sf of : Nat → Nat → PV) : ∀ (d k fuel : Nat) (b : Bool), k + d = pn → d < fuel → ∃ R : Bool, (R = true ↔ b = true ∨ ∃ j, k ≤ j ∧ j < pn ∧ L[i].port = numOf (pf j 0)) ∧
    ∀ {α : Type} (k0 : Bool → Nat → (Nat → Nat → PV) → Int → Bool → Int → Bool → Nat → (Nat → Nat → PV) → Bool → Nat → (Nat → Nat → PV) → Bool → Nat → (Nat → Nat → PV) → Option α), ref18_Table_Flush_L2_v1_l0 k0 fuel pnl pn pf (i : Int) b (k : Int) c snl sn sf lnl n f onl on of = k0 pnl pn pf (i : Int) R c snl sn sf lnl n f onl on of
  | 0, k, fuel + 1, b, hd, hf => by
    obtain rfl : k = pn := by omega
    refine ⟨b, ⟨.inl, fun h => h.elim id fun ⟨j, h1, h2, _⟩ => by omega⟩, fun {α} k0 => ?_⟩
    show ref18_Table_Flush_L2_v1_s0 _ k0 pnl k pf (i : Int) b (k : Int) c snl sn sf lnl n f onl on of = _
    unfold ref18_Table_Flush_L2_v1_s0
    rw [dec_f (Int.lt_irrefl _), cond_false]
  | d + 1, k, fuel + 1, b, hd, hf => by
    have hLn := hL.n
    have e : IntKind.i64.wrap ((k : Int) + 1) = ((k + 1 : Nat) : Int) := by rw [i64_id (by omega) (by omega)]; rfl
    cases b with
    | true =>
      obtain ⟨R, hR, h⟩ := rin_loop hpn pnl pf hL hn hlt c snl lnl onl sn on sf of d (k + 1) fuel true (by omega) (by omega)
      have hRt : R = true := hR.2 (.inl rfl)
      refine ⟨R, ⟨fun _ => .inl rfl, fun _ => hRt⟩, fun {α} k0 => ?_⟩
      show ref18_Table_Flush_L2_v1_s0 _ k0 pnl pn pf (i : Int) true (k : Int) c snl sn sf lnl n f onl on of = _
      unfold ref18_Table_Flush_L2_v1_s0
      rw [dec_t (by omega), cond_true, cond_true, e]
      exact h k0
    | false =>
      obtain ⟨R, hR, h⟩ := rin_loop hpn pnl pf hL hn hlt c snl lnl onl sn on sf of d (k + 1) fuel ((numOf (pf k 0)) == L[i].port) (by omega) (by omega)
      refine ⟨R, ?_, fun {α} k0 => ?_⟩
      · rw [hR, beq_iff_eq]
        constructor
        · rintro (h1 | ⟨j, h1, h2, h3⟩)
          · exact .inr ⟨k, Nat.le_refl k, by omega, h1.symm⟩
          · exact .inr ⟨j, by omega, h2, h3⟩
        · rintro (h1 | ⟨j, h1, h2, h3⟩)
          · cases h1
          · rcases Nat.eq_or_lt_of_le h1 with rfl | h4
            · exact .inl h3.symm
            · exact .inr ⟨j, h4, h2, h3⟩
      · show ref18_Table_Flush_L2_v1_s0 _ k0 pnl pn pf (i : Int) false (k : Int) c snl sn sf lnl n f onl on of = _
        unfold ref18_Table_Flush_L2_v1_s0
        rw [dec_t (by omega), cond_true, cond_false, inb_t (by omega) (by omega), cond_true, inb_t (by omega) (by omega), cond_true, Int.toNat_natCast, Int.toNat_natCast, hL.port hlt, e]
        exact h k0
theorem rin_eq {pn : Nat} (hpn : pn ≤ 1000000) (pnl : Bool) (pf : Nat → Nat → PV) {n : Nat} {f : Nat → Nat → PV} {L : List En} (hL : EL n f L) (hn : n ≤ 1000000) {i : Nat} (hlt : i < L.length) (c : Int) (snl lnl onl : Bool) (sn on : Nat) (sf of : Nat → Nat → PV) {α : Type} (k0 : Bool → Nat → (Nat → Nat → PV) → Int → Bool → Int → Bool → Nat → (Nat → Nat → PV) → Bool → Nat → (Nat → Nat → PV) → Bool → Nat → (Nat → Nat → PV) → Option α) :
    ref18_Table_Flush_L2_v1 pnl pn pf (i : Int) c snl sn sf lnl n f onl on of k0 = k0 pnl pn pf (i : Int) (hasP pf pn L[i].port) c snl sn sf lnl n f onl on of := by
  obtain ⟨R, hR, h⟩ := rin_loop hpn pnl pf hL hn hlt c snl lnl onl sn on sf of pn 0 18446744073709551616 false (by omega) (by omega)
  have : R = hasP pf pn L[i].port := by
    rw [Bool.eq_iff_iff, hR, hasP_iff]
    exact ⟨fun h => h.elim (fun h => nomatch h) fun ⟨j, _, h2, h3⟩ => ⟨j, h2, h3⟩, fun ⟨j, h2, h3⟩ => .inr ⟨j, Nat.zero_le j, h2, h3⟩⟩
  unfold ref18_Table_Flush_L2_v1
  rw [← this]
  exact h k0
theorem rflush_loop {pn : Nat} (hpn : pn ≤ 1000000) (pnl : Bool) (pf : Nat → Nat → PV) {n : Nat} {f : Nat → Nat → PV} {L : List En} (hL : EL n f L) (hn : n ≤ 100000) (c : Int) (snl lnl : Bool) (sn : Nat) (sf : Nat → Nat → PV) : ∀ (d i fuel : Nat) (onl : Bool) (on : Nat) (of : Nat → Nat → PV) (A : List En), i + d = n → d < fuel → EL on of A → on ≤ i → ∃ nl' n' f', EL n' f' (A ++ flushL (hasP pf pn) (L.drop i)) ∧
    ∀ {α : Type} (k0 : Int → Bool → Nat → (Nat → Nat → PV) → Bool → Nat → (Nat → Nat → PV) → Bool → Nat → (Nat → Nat → PV) → Option α), ref18_Table_Flush_L0_l0 k0 fuel pnl pn pf (i : Int) c snl sn sf lnl n f onl on of = k0 c snl sn sf lnl n f nl' n' f'
  | 0, i, fuel + 1, onl, on, of, A, hd, hf, hA, ho => by
    have hLn := hL.n
    obtain rfl : i = n := by omega
    refine ⟨onl, on, of, ?_, fun {α} k0 => ?_⟩
    · rw [List.drop_eq_nil_of_le (by omega)]; show EL on of (A ++ []); rw [List.append_nil]; exact hA
    · show ref18_Table_Flush_L0_s0 _ _ k0 pnl pn pf (i : Int) c snl sn sf lnl i f onl on of = _
      unfold ref18_Table_Flush_L0_s0
      rw [dec_f (Int.lt_irrefl _), cond_false]
  | d + 1, i, fuel + 1, onl, on, of, A, hd, hf, hA, ho => by
    have hLn := hL.n
    have hlt : i < L.length := by omega
    have hdr : L.drop i = L[i] :: L.drop (i + 1) := by rw [List.drop_eq_getElem_cons hlt]
    have hage : flushL (hasP pf pn) (L.drop i) = bif !hasP pf pn L[i].port then L[i] :: flushL (hasP pf pn) (L.drop (i + 1)) else flushL (hasP pf pn) (L.drop (i + 1)) := by
      rw [hdr]
      unfold flushL
      rw [List.filter_cons]
      cases hasP pf pn L[i].port <;> rfl
    have step : ∀ {α : Type} (k0 : Int → Bool → Nat → (Nat → Nat → PV) → Bool → Nat → (Nat → Nat → PV) → Bool → Nat → (Nat → Nat → PV) → Option α), ref18_Table_Flush_L0_l0 k0 (fuel + 1) pnl pn pf (i : Int) c snl sn sf lnl n f onl on of = bif !hasP pf pn L[i].port then ref18_Table_Flush_L0_l0 k0 fuel pnl pn pf ((i + 1 : Nat) : Int) c snl sn sf lnl n f (onl && false) (on + 1) (catf on of (rowOf 4 (ecells L[i]))) else ref18_Table_Flush_L0_l0 k0 fuel pnl pn pf ((i + 1 : Nat) : Int) c snl sn sf lnl n f onl on of := by
      intro α k0
      show ref18_Table_Flush_L0_s0 _ _ k0 pnl pn pf (i : Int) c snl sn sf lnl n f onl on of = _
      unfold ref18_Table_Flush_L0_s0
      rw [dec_t (by omega), cond_true, rin_eq hpn pnl pf hL (by omega) hlt c snl lnl onl sn on sf of, inb_t (by omega) (by omega), cond_true, bnd32 (by omega), cond_true, e23_eq hL hlt, i64_id (n := (i : Int) + 1) (by omega) (by omega)]
      rfl
    cases hx : hasP pf pn L[i].port with
    | false =>
      obtain ⟨nl', n', f', hE, he⟩ := rflush_loop hpn pnl pf hL hn c snl lnl sn sf d (i + 1) fuel (onl && false) (on + 1) _ (A ++ [L[i]]) (by omega) (by omega) (hA.snoc L[i]) (by omega)
      refine ⟨nl', n', f', ?_, fun {α} k0 => by rw [step, hx, Bool.not_false, cond_true]; exact he k0⟩
      rw [hage, hx]
      simpa using hE
    | true =>
      obtain ⟨nl', n', f', hE, he⟩ := rflush_loop hpn pnl pf hL hn c snl lnl sn sf d (i + 1) fuel onl on of A (by omega) (by omega) hA (by omega)
      refine ⟨nl', n', f', ?_, fun {α} k0 => by rw [step, hx, Bool.not_true, cond_false]; exact he k0⟩
      rw [hage, hx]
      exact hE
theorem rflush_one {pn : Nat} (hpn : pn ≤ 1000000) (pnl : Bool) (pf : Nat → Nat → PV) {n : Nat} {f : Nat → Nat → PV} {L : List En} (hL : EL n f L) (hn : n ≤ 100000) (c : Int) (snl lnl : Bool) (sn : Nat) (sf : Nat → Nat → PV) : ∃ nl' n' f', EL n' f' (flushL (hasP pf pn) L) ∧
    ∀ {α : Type} (k0 : Int → Bool → Nat → (Nat → Nat → PV) → Bool → Nat → (Nat → Nat → PV) → Bool → Nat → (Nat → Nat → PV) → Option α), ref18_Table_Flush_L0 pnl pn pf c snl sn sf lnl n f (fun _ _ => .val undef) k0 = k0 c snl sn sf lnl n f nl' n' f' := by
  obtain ⟨nl', n', f', hE, he⟩ := rflush_loop hpn pnl pf hL hn c snl lnl sn sf n 0 18446744073709551616 true 0 (fun _ _ => .val undef) [] (by omega) (by omega) (EL.nil _) (Nat.le_refl _)
  refine ⟨nl', n', f', hE, fun {α} k0 => ?_⟩
  unfold ref18_Table_Flush_L0
  exact he k0
theorem same_loop {L : List En} {ln : Nat} {lf : Nat → Nat → PV} (hR : EL ln lf L) {cn : Nat} {cf : Nat → Nat → PV} (hC : EL cn cf L) (hn : L.length ≤ 1000000) (c c' : Int) (M : MapL) (nl : Bool) (n : Nat) (f : Nat → Nat → PV) (snl : Bool) (sn : Nat) (sf : Nat → Nat → PV) (lnl cnl : Bool) : ∀ (d i fuel : Nat), i + d = L.length → d < fuel → ∀ {α : Type} (k0 k1 : Int → Int → MapL → Bool → Nat → (Nat → Nat → PV) → Bool → Nat → (Nat → Nat → PV) → Bool → Nat → (Nat → Nat → PV) → Option α),
    law18_Same_L0_l0 k0 k1 fuel (i : Int) c c' M nl n f snl sn sf lnl ln lf cnl cn cf = k1 c c' M nl n f snl sn sf lnl ln lf
  | 0, i, fuel + 1, hd, hf, α, k0, k1 => by
    have hRn := hR.n
    have hCn := hC.n
    show law18_Same_L0_s0 _ k0 k1 (i : Int) c c' M nl n f snl sn sf lnl ln lf cnl cn cf = _
    unfold law18_Same_L0_s0
    rw [dec_f (by omega), cond_false]
  | d + 1, i, fuel + 1, hd, hf, α, k0, k1 => by
    have hRn := hR.n
    have hCn := hC.n
    have hlt : i < L.length := by omega
    have e : e19 cf (i : Int) lf = false := by
      unfold e19
      rw [Int.toNat_natCast, hR.mac hlt, hR.vlan hlt, hR.port hlt, hR.seen hlt, hC.mac hlt, hC.vlan hlt, hC.port hlt, hC.seen hlt, beq_self_eq_true, beq_self_eq_true, beq_self_eq_true, beq_self_eq_true]
      rfl
    show law18_Same_L0_s0 _ k0 k1 (i : Int) c c' M nl n f snl sn sf lnl ln lf cnl cn cf = _
    unfold law18_Same_L0_s0
    rw [dec_t (by omega), cond_true, inb_t (by omega) (by omega), cond_true, cond_true, cond_true, cond_true, inb_t (by omega) (by omega), cond_true, e, cond_false, i64_id (by omega) (by omega)]
    exact same_loop hR hC hn c c' M nl n f snl sn sf lnl cnl d (i + 1) fuel (by omega) (by omega) k0 k1
theorem same_eq {L : List En} {n : Nat} {f : Nat → Nat → PV} (hL : EL n f L) {ln : Nat} {lf : Nat → Nat → PV} (hR : EL ln lf L) (hn : L.length ≤ 1000000) (c : Int) (M : MapL) {nl : Bool} (hnl : nl = true → n = 0) (snl : Bool) (sn : Nat) (sf : Nat → Nat → PV) (lnl : Bool) {α : Type} (k0 k1 : Int → Int → MapL → Bool → Nat → (Nat → Nat → PV) → Bool → Nat → (Nat → Nat → PV) → Bool → Nat → (Nat → Nat → PV) → Option α) :
    law18_Same c c M nl n f snl sn sf lnl ln lf k0 k1 = k1 c c M nl n f snl sn sf lnl ln lf := by
  have hLn := hL.n
  have hRn := hR.n
  obtain ⟨cnl, cf, hC, hc⟩ := clone_eq hL (by omega) nl hnl
  unfold law18_Same law18_Same_T
  rw [hc]
  have e1 : (((n : Nat) : Int) != (ln : Int)) = false := by rw [show n = ln by omega]; exact bne_self_eq_false _
  rw [e1, cond_false, bne_self_eq_false, cond_false]
  unfold law18_Same_L0
  exact same_loop hR hC hn c c M nl n f snl sn sf lnl cnl L.length 0 18446744073709551616 (by omega) (by omega) k0 k1
end Go.Proofs.Ytampnnhdgnhjaaa.FdbPlays
