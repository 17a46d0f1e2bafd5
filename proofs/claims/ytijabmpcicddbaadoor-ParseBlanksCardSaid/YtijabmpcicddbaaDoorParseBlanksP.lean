/- ParseBlanks: blanks change nothing; one word more, or a mark behind, makes no command. -/
import Derived.Test.YtijabmpcicddbaaDoorParseBlanksL
set_option linter.unusedVariables false
set_option linter.unusedSimpArgs false
namespace Go.Proofs.YtijabmpcicddbaaDoor.ParseBlanks
open Go.Ve
theorem cb {a_1 a_2 a_3 a_4 a_5 a_6 a_7 a_8 : Int} (h_3 : PvOk (.val (.int .i64 a_3))) (h_4 : PvOk (.val (.int .i64 a_4))) (h_5 : PvOk (.val (.int .i64 a_5))) (h_6 : PvOk (.val (.int .u8 a_6))) (h_7 : PvOk (.val (.int .u8 a_7))) (h_8 : PvOk (.val (.int .u64 a_8))) : CB ⟨a_1, a_2, a_3, a_4, a_5, a_6, a_7, a_8⟩ where
  p := okI_spec.2 (pv_i64 h_3)
  n := okI_spec.2 (pv_i64 h_4)
  v := okI_spec.2 (pv_i64 h_5)
  m0 := (pv_u8 h_6).1
  m1 := (pv_u8 h_6).2
  t0 := (pv_u8 h_7).1
  t1 := (pv_u8 h_7).2
  a0 := (pv_u64 h_8).1
theorem e23_self (c : C8) : e23 c.what c.what c.kind c.kind c.port c.port c.num c.num c.vlan c.vlan c.memb c.memb c.tagd c.tagd c.mac c.mac = true := by unfold e23; simp
/-! ### wider blanks -/
def wid (n : Nat) : List UInt8 → List UInt8
  | [] => []
  | c :: l => bif c == 32 then c :: (List.replicate n 32 ++ wid n l) else c :: wid n l
theorem wid_app (n : Nat) : ∀ (a b : List UInt8), wid n (a ++ b) = wid n a ++ wid n b
  | [], b => rfl
  | c :: a, b => by
    show (bif c == 32 then c :: (List.replicate n 32 ++ wid n (a ++ b)) else c :: wid n (a ++ b)) = (bif c == 32 then c :: (List.replicate n 32 ++ wid n a) else c :: wid n a) ++ wid n b
    rw [wid_app n a b]
    cases c == 32 <;> simp
theorem cut_rep (n : Nat) (r : List UInt8) : cutW [] (List.replicate n 32 ++ r) = cutW [] r := by
  induction n with
  | zero => rfl
  | succ n ih =>
    rw [List.replicate_succ, List.cons_append, cutW_blank, ih]
    rfl
theorem cut_wid (n : Nat) : ∀ (l cur : List UInt8), cutW cur (wid n l) = cutW cur l
  | [], cur => rfl
  | c :: l, cur => by
    by_cases hc : c = 32
    · subst hc
      show cutW cur (32 :: (List.replicate n 32 ++ wid n l)) = _
      rw [cutW_blank, cutW_blank, cut_rep, cut_wid n l]
    · have e : wid n (c :: l) = [c] ++ wid n l := by
        show (bif c == 32 then _ else c :: wid n l) = _
        rw [beq_false_of_ne hc, cond_false]; rfl
      have hr : ∀ x ∈ [c], x ≠ 32 := fun x hx => by rw [List.mem_singleton.1 hx]; exact hc
      rw [e, cutW_run [c] cur _ hr, show c :: l = [c] ++ l from rfl, cutW_run [c] cur _ hr, cut_wid n l]
theorem cut_end1 : ∀ (l cur : List UInt8), cutW cur (l ++ [32]) = cutW cur l
  | [], cur => by
    show cutW cur [32] = cutW cur []
    rw [show ([32] : List UInt8) = 32 :: [] from rfl, cutW_blank, cutW_end]
    rw [cutW_end]; simp [ne]
  | c :: l, cur => by
    by_cases hc : c = 32
    · subst hc
      rw [List.cons_append, cutW_blank, cutW_blank, cut_end1 l]
    · have hr : ∀ x ∈ [c], x ≠ 32 := fun x hx => by rw [List.mem_singleton.1 hx]; exact hc
      rw [List.cons_append, show c :: (l ++ [32]) = [c] ++ (l ++ [32]) from rfl, cutW_run [c] cur _ hr, show c :: l = [c] ++ l from rfl, cutW_run [c] cur _ hr, cut_end1 l]
theorem words_wid (n : Nat) (l : List UInt8) : words ([32, 32] ++ wid n l ++ [32]) = words l := by
  show cutW [] ([32, 32] ++ wid n l ++ [32]) = cutW [] l
  rw [cut_end1, show ([32, 32] : List UInt8) = List.replicate 2 32 from rfl, cut_rep, cut_wid]
theorem wid_len (n : Nat) : ∀ (l : List UInt8), (wid n l).length = l.length + n * l.count 32
  | [] => rfl
  | c :: l => by
    have ih := wid_len n l
    show (bif c == 32 then c :: (List.replicate n 32 ++ wid n l) else c :: wid n l).length = _
    rw [List.count_cons, List.length_cons]
    cases h : c == 32 with
    | true => rw [cond_true, if_pos rfl, Nat.mul_add, Nat.mul_one]; simp only [List.length_cons, List.length_append, List.length_replicate]; omega
    | false => rw [cond_false, if_neg (by decide)]; simp only [List.length_cons, Nat.add_zero]; omega
theorem wid_le (n : Nat) (h : n ≤ 3) (l : List UInt8) : (wid n l).length ≤ 4 * l.length := by
  rw [wid_len]
  have h1 : l.count 32 ≤ l.length := List.count_le_length
  have h2 : n * l.count 32 ≤ 3 * l.length := Nat.mul_le_mul h h1
  omega
theorem join_cnt : ∀ (L : List (List UInt8)), (∀ w ∈ L, ∀ c ∈ w, c ≠ 32) → (joinW L).count 32 ≤ L.length
  | [], _ => Nat.le_refl _
  | [x], h => by
    rw [joinW_one, List.count_eq_zero.2 (fun hm => (h x (by simp)) 32 hm rfl)]; exact Nat.zero_le _
  | x :: y :: L, h => by
    have ih := join_cnt (y :: L) (fun w hw => h w (List.mem_cons_of_mem _ hw))
    rw [joinW_two, List.count_append, List.count_cons, List.count_eq_zero.2 (fun hm => (h x (by simp)) 32 hm rfl)]
    simp only [List.length_cons] at ih ⊢
    simp
    omega
/-! ### the law's own loops -/
theorem rep_loop {α : Type} (k0 : Int → ByteArray → ByteArray → Int → Int → Int → Int → Int → Int → Int → Int → Int → Option α) (a : Int) (n : Nat) (hn : (IntKind.i64.wrap a).tmod 4 = (n : Int)) (h4 : n ≤ 3) (t : ByteArray) (z y1 y2 y3 y4 y5 y6 y7 y8 : Int) : ∀ (d j fuel : Nat) (s : ByteArray), j + d = n → d < fuel → s.size + d ≤ 10000 →
    ∃ s', s'.data.toList = s.data.toList ++ List.replicate d 32 ∧ law22_ParseBlanks_L2_v1_l0 k0 fuel a t s z (j : Int) y1 y2 y3 y4 y5 y6 y7 y8 = k0 a t s' z y1 y2 y3 y4 y5 y6 y7 y8
  | 0, j, fuel + 1, s, hj, hf, hs => by
    refine ⟨s, by simp, ?_⟩
    show law22_ParseBlanks_L2_v1_s0 _ k0 a t s z (j : Int) y1 y2 y3 y4 y5 y6 y7 y8 = _
    unfold law22_ParseBlanks_L2_v1_s0
    rw [hn, dec_f (by omega), cond_false]
  | d + 1, j, fuel + 1, s, hj, hf, hs => by
    have e32 : (⟨#[32]⟩ : ByteArray).size = 1 := rfl
    have e1 : (s ++ (⟨#[32]⟩ : ByteArray)).size = s.size + 1 := by rw [ByteArray.size_append]; rfl
    obtain ⟨s', h1, h2⟩ := rep_loop k0 a n hn h4 t z y1 y2 y3 y4 y5 y6 y7 y8 d (j + 1) fuel (s ++ ⟨#[32]⟩) (by omega) (by omega) (by omega)
    refine ⟨s', ?_, ?_⟩
    · rw [h1, bl_append, List.append_assoc]; rfl
    · show law22_ParseBlanks_L2_v1_s0 _ k0 a t s z (j : Int) y1 y2 y3 y4 y5 y6 y7 y8 = _
      unfold law22_ParseBlanks_L2_v1_s0
      rw [hn, dec_t (show (j : Int) < (n : Int) by omega), cond_true, ble_true (by rw [e32]; omega), cond_true, i64_id (by omega) (by omega)]
      exact h2
theorem wide_loop {α : Type} (k0 : ByteArray → ByteArray → Int → Int → Int → Int → Int → Int → Int → Int → Option α) (a : Int) (n : Nat) (hn : (IntKind.i64.wrap a).tmod 4 = (n : Int)) (h4 : n ≤ 3) (t : ByteArray) (ht : t.size ≤ 200) (y1 y2 y3 y4 y5 y6 y7 y8 : Int) : ∀ (d i fuel : Nat) (s : ByteArray), i + d = t.size → d < fuel → s.data.toList = wid n (t.data.toList.take i) →
    ∃ s', s'.data.toList = wid n t.data.toList ∧ law22_ParseBlanks_L0_l0 k0 fuel a t s (i : Int) y1 y2 y3 y4 y5 y6 y7 y8 = k0 t s' y1 y2 y3 y4 y5 y6 y7 y8
  | 0, i, fuel + 1, s, hi, hf, hs => by
    refine ⟨s, by rw [hs, List.take_of_length_le (by rw [bl_size]; omega)], ?_⟩
    show law22_ParseBlanks_L0_s0 _ _ k0 a t s (i : Int) y1 y2 y3 y4 y5 y6 y7 y8 = _
    unfold law22_ParseBlanks_L0_s0
    rw [dec_f (by omega), cond_false]
  | d + 1, i, fuel + 1, s, hi, hf, hs => by
    have hl : i < t.data.toList.length := by rw [bl_size]; omega
    have hsz : s.size ≤ 800 := by
      rw [← bl_size, hs]
      refine Nat.le_trans (wid_le n h4 _) ?_
      rw [List.length_take, bl_size]
      omega
    have ex : (e24 s t (i : Int)).data.toList = s.data.toList ++ [t.data.toList[i]] := by
      unfold e24
      rw [bl_append, bl_extract, Int.toNat_natCast, i64_id (by omega) (by omega), show ((i : Int) + 1).toNat = i + 1 by omega, show i + (i + 1 - i) = i + 1 by omega, List.drop_take, show i + 1 - i = 1 by omega, List.drop_eq_getElem_cons hl]
      rfl
    have exz : (t.extract (i : Int).toNat ((i : Int).toNat + ((IntKind.i64.wrap ((i : Int) + 1)).toNat - (i : Int).toNat))).size ≤ 1000 := by
      rw [← bl_size, bl_extract, List.length_drop, List.length_take, bl_size]; omega
    have hw : wid n (t.data.toList.take (i + 1)) = s.data.toList ++ wid n [t.data.toList[i]] := by
      rw [List.take_add_one, List.getElem?_eq_getElem hl, wid_app, hs]; rfl
    have e25z : (e24 s t (i : Int)).size ≤ 801 := by rw [← bl_size, ex]; simp [bl_size]; omega
    have step : law22_ParseBlanks_L0_l0 k0 (fuel + 1) a t s (i : Int) y1 y2 y3 y4 y5 y6 y7 y8 = bif t.data.toList[i] == 32 then law22_ParseBlanks_L2_v1 a t (e24 s t (i : Int)) (i : Int) y1 y2 y3 y4 y5 y6 y7 y8 (fun r_13 r_14 r_15 r_16 r_17 r_18 r_19 r_20 r_21 r_22 r_23 r_24 => law22_ParseBlanks_L0_l0 k0 fuel r_13 r_14 r_15 (IntKind.i64.wrap (r_16 + 1)) r_17 r_18 r_19 r_20 r_21 r_22 r_23 r_24) else law22_ParseBlanks_L0_l0 k0 fuel a t (e24 s t (i : Int)) (IntKind.i64.wrap ((i : Int) + 1)) y1 y2 y3 y4 y5 y6 y7 y8 := by
      show law22_ParseBlanks_L0_s0 _ _ k0 a t s (i : Int) y1 y2 y3 y4 y5 y6 y7 y8 = _
      unfold law22_ParseBlanks_L0_s0
      rw [ble_true (a := s.size + _) (by omega), dec_t (show (i : Int) < (t.size : Int) by omega), cond_true, i64_id (show (-9223372036854775808 : Int) ≤ (i : Int) + 1 by omega) (by omega), inb_t (show (0 : Int) ≤ (i : Int) + 1 by omega) (show (i : Int) + 1 < ((t.size + 1 : Nat) : Int) by omega), cond_true, dec_t (show (0 : Int) ≤ (i : Int) by omega), dec_t (show (i : Int) ≤ (i : Int) + 1 by omega), Bool.true_and, cond_true, cond_true, inb_t (show (0 : Int) ≤ (i : Int) by omega) (show (i : Int) < (t.size : Int) by omega), cond_true, bt_get t i hl]
      have : ((((t.data.toList[i]).toNat : Nat) : Int) == 32) = (t.data.toList[i] == 32) := by
        cases h : t.data.toList[i] == 32 with
        | true => rw [eq_of_beq h]; rfl
        | false =>
          apply beq_false_of_ne
          intro e
          have : t.data.toList[i] = 32 := UInt8.toNat_inj.1 (by show _ = 32; omega)
          rw [this] at h; exact absurd h (by decide)
      rw [this]
    cases hb : t.data.toList[i] == 32 with
    | true =>
      obtain ⟨s1, h1, h2⟩ := rep_loop (fun r_13 r_14 r_15 r_16 r_17 r_18 r_19 r_20 r_21 r_22 r_23 r_24 => law22_ParseBlanks_L0_l0 k0 fuel r_13 r_14 r_15 (IntKind.i64.wrap (r_16 + 1)) r_17 r_18 r_19 r_20 r_21 r_22 r_23 r_24) a n hn h4 t (i : Int) y1 y2 y3 y4 y5 y6 y7 y8 n 0 18446744073709551616 (e24 s t (i : Int)) (by omega) (by omega) (by omega)
      have hs1 : s1.data.toList = wid n (t.data.toList.take (i + 1)) := by
        rw [h1, ex, hw, List.append_assoc]
        show _ = _ ++ (bif t.data.toList[i] == 32 then t.data.toList[i] :: (List.replicate n 32 ++ []) else _)
        rw [hb, cond_true, List.append_nil]; rfl
      obtain ⟨s', h3, h5⟩ := wide_loop k0 a n hn h4 t ht y1 y2 y3 y4 y5 y6 y7 y8 d (i + 1) fuel s1 (by omega) (by omega) hs1
      refine ⟨s', h3, ?_⟩
      rw [step, hb, cond_true]
      unfold law22_ParseBlanks_L2_v1
      refine h2.trans ?_
      show law22_ParseBlanks_L0_l0 k0 fuel a t s1 (IntKind.i64.wrap ((i : Int) + 1)) y1 y2 y3 y4 y5 y6 y7 y8 = _
      rw [i64_id (by omega) (by omega)]
      exact h5
    | false =>
      have hs1 : (e24 s t (i : Int)).data.toList = wid n (t.data.toList.take (i + 1)) := by
        rw [ex, hw]
        show _ = _ ++ (bif t.data.toList[i] == 32 then _ else t.data.toList[i] :: [])
        rw [hb, cond_false]
      obtain ⟨s', h3, h5⟩ := wide_loop k0 a n hn h4 t ht y1 y2 y3 y4 y5 y6 y7 y8 d (i + 1) fuel _ (by omega) (by omega) hs1
      refine ⟨s', h3, ?_⟩
      rw [step, hb, cond_false, i64_id (by omega) (by omega)]
      exact h5
/-! ### a word that no form takes -/
def Bad (b : ByteArray) : Prop := ∀ j, j < 16 → ∀ a ∈ Vs j, ∀ c : C8, rd a b c = none
theorem take_bad : ∀ (V W : List ByteArray) (c : C8) {b : ByteArray}, (∀ a ∈ V, ∀ c : C8, rd a b c = none) → V.length = W.length → b ∈ W → takeF V W c = none
  | [], [], c, b, _, _, h => by cases h
  | a :: V, w :: W, c, b, hV, hl, h => by
    unfold takeF
    rcases List.mem_cons.1 h with rfl | h
    · rw [hV a (List.mem_cons_self ..)]
    · cases rd a w c with
      | none => rfl
      | some c' => exact take_bad V W c' (fun x hx => hV x (List.mem_cons_of_mem _ hx)) (by simpa using hl) h
theorem find_bad {b : ByteArray} (hb : Bad b) {W : List ByteArray} (h : b ∈ W) : find W = none := by
  cases hf : find W with
  | none => rfl
  | some c =>
    obtain ⟨j, _, hj, h1⟩ := first_some 16 0 hf
    exfalso
    have : tk j W = none := by
      unfold tk
      cases hl : (Vs j).length == W.length with
      | false => rfl
      | true => exact take_bad _ _ _ (hb j (by omega)) (by simpa using hl) h
    rw [this] at h1; cases h1
theorem bad_of {b : ByteArray} (hs : b.size ≤ 200) (h1 : numOk b = false) (h2 : ∀ v, b.data.toList ≠ tl v) (h3 : ∀ j, j < 16 → ∀ a ∈ Vs j, (b.data.toList == a.data.toList) = false) : Bad b := by
  intro j hj a ha c
  have hm : ((macP b).2 == 0) = false := by
    rcases parse_cases b hs with h | ⟨v, hv, e, _⟩
    · have : macP b = (0, 11) := by unfold macP; rw [h]; rfl
      rw [this]; rfl
    · exact absurd e (h2 v)
  unfold rd
  rw [h1, hm, h3 j hj a ha]
  cases a.data.toList == [78] <;> cases a.data.toList == [80] <;> cases a.data.toList == [86] <;> cases a.data.toList == [77] <;> cases a.data.toList == [84] <;> cases a.data.toList == [65] <;> rfl
theorem bad_x : Bad ⟨#[120]⟩ := by
  refine bad_of (by decide) (by kernel_rfl) (fun v h => ?_) (fun j hj a ha => ?_)
  · have := congrArg List.length h
    unfold tl at this
    simp at this
  · have h : (List.range 16).all (fun j => (Vs j).all (fun a => !(([120] : List UInt8) == a.data.toList))) = true := by kernel_rfl
    have := List.all_eq_true.1 (List.all_eq_true.1 h j (List.mem_range.2 hj)) a ha
    show (([120] : List UInt8) == a.data.toList) = false
    cases hh : ([120] : List UInt8) == a.data.toList with
    | false => rfl
    | true => rw [hh] at this; exact absurd this (by decide)
theorem H_9 (n : Nat) : H n ≠ 9 := by
  by_cases h : n < 16
  · have : (List.range 16).all (fun n => !(H n == 9)) = true := by kernel_rfl
    have := List.all_eq_true.1 this n (List.mem_range.2 h)
    intro e; rw [e] at this; exact absurd this (by decide)
  · have e : ([48, 49, 50, 51, 52, 53, 54, 55, 56, 57, 97, 98, 99, 100, 101, 102] : List UInt8)[n]? = none := List.getElem?_eq_none (by simp; omega)
    unfold H List.getD; rw [e]; decide
theorem bad_tab {b : ByteArray} (hs : b.size ≤ 200) (h : (9 : UInt8) ∈ b.data.toList) : Bad b := by
  refine bad_of hs ?_ (fun v e => ?_) (fun j hj a ha => ?_)
  · cases hb : numOk b with
    | false => rfl
    | true =>
      obtain ⟨u, _, hd⟩ := numOk_spec.1 hb
      rw [hd] at h
      exact absurd (List.all_eq_true.1 (dec_all u) _ h) (by decide)
  · rw [e] at h
    unfold tl at h
    simp only [List.mem_cons, List.not_mem_nil, or_false] at h
    have := H_9
    rcases h with h | h | h | h | h | h | h | h | h | h | h | h | h | h | h | h | h <;> first | exact this _ h.symm | exact absurd h (by decide)
  · have hk : (List.range 16).all (fun j => (Vs j).all (fun a => a.data.toList.all (fun x => !(x == 9)))) = true := by kernel_rfl
    have hk1 := List.all_eq_true.1 (List.all_eq_true.1 hk j (List.mem_range.2 hj)) a ha
    apply beq_false_of_ne
    intro e
    rw [e] at h
    have := List.all_eq_true.1 hk1 9 h
    exact absurd this (by decide)
/-! ### the three lines -/
theorem find_x {t : ByteArray} {L : List (List UInt8)} (hg : Ve.Good L) (hn : L ≠ []) (ht : t.data.toList = joinW L) : find (WB (t ++ ⟨#[32, 120]⟩)) = none := by
  have hg' : Ve.Good (L ++ [[120]]) := fun w hw => by
    rcases List.mem_append.1 hw with h | h
    · exact hg w h
    · rw [List.mem_singleton.1 h]
      exact ⟨by simp, fun c hc => by rw [List.mem_singleton.1 hc]; decide⟩
  have e : (t ++ (⟨#[32, 120]⟩ : ByteArray)).data.toList = joinW (L ++ [[120]]) := by
    rw [bl_append, ht, joinW_snoc _ _ hn]
  unfold WB
  rw [e, words_join _ hg']
  exact find_bad bad_x (List.mem_map.2 ⟨[120], by simp, rfl⟩)
theorem find_tab {t : ByteArray} {L : List (List UInt8)} {x : List UInt8} (hg : Ve.Good (L ++ [x])) (hx : x.length ≤ 150) (ht : t.data.toList = joinW (L ++ [x])) : find (WB (t ++ ⟨#[9]⟩)) = none := by
  have hg' : Ve.Good (L ++ [x ++ [9]]) := fun w hw => by
    rcases List.mem_append.1 hw with h | h
    · exact hg w (List.mem_append_left _ h)
    · rw [List.mem_singleton.1 h]
      refine ⟨by simp, fun c hc => ?_⟩
      rcases List.mem_append.1 hc with h | h
      · exact (hg x (by simp)).2 c h
      · rw [List.mem_singleton.1 h]; decide
  have e : (t ++ (⟨#[9]⟩ : ByteArray)).data.toList = joinW (L ++ [x ++ [9]]) := by
    rw [bl_append, ht]
    cases hL : L with
    | nil => rw [List.nil_append, List.nil_append, joinW_one, joinW_one]
    | cons y M =>
      rw [joinW_snoc _ _ (by simp), joinW_snoc _ _ (by simp), List.append_assoc]; rfl
  unfold WB
  rw [e, words_join _ hg']
  refine find_bad (b := w2b (x ++ [9])) (bad_tab ?_ ?_) (List.mem_map.2 ⟨x ++ [9], by simp, rfl⟩)
  · show (x ++ [9]).toArray.size ≤ 200
    simp; omega
  · show (9 : UInt8) ∈ x ++ [9]
    simp
theorem ok4 (n m : Nat) (h1 : n ≤ 100000) (h2 : m ≤ 100000) : Nat.ble (n + m) 4611686018427387904 = true := ble_true (by omega)
theorem main {α : Type} (a_1 : Int) (a_2 : Int) (a_3 : Int) (a_4 : Int) (a_5 : Int) (a_6 : Int) (a_7 : Int) (a_8 : Int) (a_9 : Int) (h_1 : PvOk (.val (.int .i64 a_1))) (h_2 : PvOk (.val (.int .i64 a_2))) (h_3 : PvOk (.val (.int .i64 a_3))) (h_4 : PvOk (.val (.int .i64 a_4))) (h_5 : PvOk (.val (.int .i64 a_5))) (h_6 : PvOk (.val (.int .u8 a_6))) (h_7 : PvOk (.val (.int .u8 a_7))) (h_8 : PvOk (.val (.int .u64 a_8))) (h_9 : PvOk (.val (.int .u8 a_9))) (k0 k1 : Option α) : law22_ParseBlanks a_1 a_2 a_3 a_4 a_5 a_6 a_7 a_8 a_9 k0 k1 = k1 := by
  have hc : CB ⟨a_1, a_2, a_3, a_4, a_5, a_6, a_7, a_8⟩ := cb h_3 h_4 h_5 h_6 h_7 h_8
  unfold law22_ParseBlanks law22_ParseBlanks_T
  refine (textP hc α _ _).trans ?_
  cases ht : textO ⟨a_1, a_2, a_3, a_4, a_5, a_6, a_7, a_8⟩ with
  | none => rfl
  | some t =>
    obtain ⟨i, hi, hk, ej, z1, z2⟩ := text_some hc ht
    obtain ⟨w1, w2, w3⟩ := wr_fit hi hc
    have he : ∀ w ∈ wr i ⟨a_1, a_2, a_3, a_4, a_5, a_6, a_7, a_8⟩, w.data.toList ≠ [] := fun w hw e => by rw [tk_empty hi ⟨w, hw, e⟩] at hk; cases hk
    have hg : Ve.Good ((wr i ⟨a_1, a_2, a_3, a_4, a_5, a_6, a_7, a_8⟩).map (·.data.toList)) := fun w hw => by
      obtain ⟨b, hb, rfl⟩ := List.mem_map.1 hw
      exact ⟨he b hb, (w2 b hb).2⟩
    have htl : t.data.toList = joinW ((wr i ⟨a_1, a_2, a_3, a_4, a_5, a_6, a_7, a_8⟩).map (·.data.toList)) := by rw [ej]; rfl
    have hne : (wr i ⟨a_1, a_2, a_3, a_4, a_5, a_6, a_7, a_8⟩).map (·.data.toList) ≠ [] := fun e => by
      have : (wr i ⟨a_1, a_2, a_3, a_4, a_5, a_6, a_7, a_8⟩).length = 0 := by have := congrArg List.length e; simpa using this
      have hv : (Vs i).length = 0 := by unfold wr at this; simpa using this
      have hh : (List.range 16).all (fun i => !((Vs i).length == 0)) = true := by kernel_rfl
      have := List.all_eq_true.1 hh i (List.mem_range.2 hi)
      rw [hv] at this; exact absurd this (by decide)
    obtain ⟨M, x, hM⟩ : ∃ M x, (wr i ⟨a_1, a_2, a_3, a_4, a_5, a_6, a_7, a_8⟩).map (·.data.toList) = M ++ [x] := ⟨_, _, (List.dropLast_concat_getLast hne).symm⟩
    have hx : x.length ≤ 20 := by
      have : x ∈ (wr i ⟨a_1, a_2, a_3, a_4, a_5, a_6, a_7, a_8⟩).map (·.data.toList) := by rw [hM]; simp
      obtain ⟨b, hb, rfl⟩ := List.mem_map.1 this
      exact (w2 b hb).1
    have f2 : find (WB (t ++ ⟨#[32, 120]⟩)) = none := find_x hg hne htl
    have f3 : find (WB (t ++ ⟨#[9]⟩)) = none := find_tab (by rw [← hM]; exact hg) (by omega) (by rw [← hM]; exact htl)
    obtain ⟨b0, b1⟩ := pv_u8 h_9
    obtain ⟨n, hn⟩ : ∃ n : Nat, a_9 = (n : Int) := ⟨a_9.toNat, by omega⟩
    have hmod : (IntKind.i64.wrap a_9).tmod 4 = ((n % 4 : Nat) : Int) := by
      rw [i64_id (by omega) (by omega), hn]
      exact Int.ofNat_tmod n 4 ▸ rfl
    obtain ⟨s', h3, h5⟩ := wide_loop (α := α) (fun r_11 r_12 r_13 r_14 r_15 r_16 r_17 r_18 r_19 r_20 => _) a_9 (n % 4) hmod (by omega) t (by omega) a_1 a_2 a_3 a_4 a_5 a_6 a_7 a_8 t.size 0 18446744073709551616 ⟨#[]⟩ (by omega) (by omega) rfl
    refine h5.trans ?_
    have hs' : s'.size ≤ 144 := by
      have hcnt : t.data.toList.count 32 ≤ 6 := by
        rw [htl]
        refine Nat.le_trans (join_cnt _ (fun w hw => (hg w hw).2)) ?_
        rw [List.length_map]; exact w1
      have h2 : n % 4 * t.data.toList.count 32 ≤ 3 * 6 := Nat.mul_le_mul (by omega) hcnt
      rw [← bl_size, h3, wid_len, bl_size]
      omega
    have q1 : ((⟨#[32, 32]⟩ : ByteArray) ++ s').size = s'.size + 2 := by rw [ByteArray.size_append]; exact Nat.add_comm _ _
    have q2 : (((⟨#[32, 32]⟩ : ByteArray) ++ s') ++ (⟨#[32]⟩ : ByteArray)).size = s'.size + 3 := by rw [ByteArray.size_append, q1]; rfl
    have q3 : (t ++ (⟨#[32, 120]⟩ : ByteArray)).size = t.size + 2 := by rw [ByteArray.size_append]; rfl
    have q4 : (t ++ (⟨#[9]⟩ : ByteArray)).size = t.size + 1 := by rw [ByteArray.size_append]; rfl
    have f1 : find (WB (((⟨#[32, 32]⟩ : ByteArray) ++ s') ++ (⟨#[32]⟩ : ByteArray))) = some ⟨a_1, a_2, a_3, a_4, a_5, a_6, a_7, a_8⟩ := by
      have : WB (((⟨#[32, 32]⟩ : ByteArray) ++ s') ++ (⟨#[32]⟩ : ByteArray)) = WB t := by
        unfold WB
        rw [bl_append, bl_append, h3]
        exact congrArg (List.map w2b) (words_wid _ _)
      rw [this]; exact z2
    have b1' : Nat.ble ((⟨#[32, 32]⟩ : ByteArray).size + s'.size) 4611686018427387904 = true := ok4 _ _ (by decide) (by omega)
    have b2' : Nat.ble (((⟨#[32, 32]⟩ : ByteArray) ++ s').size + (⟨#[32]⟩ : ByteArray).size) 4611686018427387904 = true := ok4 _ _ (by rw [q1]; omega) (by decide)
    have b3' : Nat.ble (t.size + (⟨#[32, 120]⟩ : ByteArray).size) 4611686018427387904 = true := ok4 _ _ (by omega) (by decide)
    have b4' : Nat.ble (t.size + (⟨#[9]⟩ : ByteArray).size) 4611686018427387904 = true := ok4 _ _ (by omega) (by decide)
    rw [b1', cond_true, b2', cond_true, lineP (((⟨#[32, 32]⟩ : ByteArray) ++ s') ++ (⟨#[32]⟩ : ByteArray)) (by omega), f1]
    show (bif Nat.ble (t.size + (⟨#[32, 120]⟩ : ByteArray).size) 4611686018427387904 then parse_Line (t ++ (⟨#[32, 120]⟩ : ByteArray)) _ _ _ else none) = _
    rw [b3', cond_true, lineP (t ++ (⟨#[32, 120]⟩ : ByteArray)) (by omega), f2]
    show (bif Nat.ble (t.size + (⟨#[9]⟩ : ByteArray).size) 4611686018427387904 then parse_Line (t ++ (⟨#[9]⟩ : ByteArray)) _ _ _ else none) = _
    rw [b4', cond_true, lineP (t ++ (⟨#[9]⟩ : ByteArray)) (by omega), f3]
    show (bif e23 a_1 a_1 a_2 a_2 a_3 a_3 a_4 a_4 a_5 a_5 a_6 a_6 a_7 a_7 a_8 a_8 then k1 else k0) = k1
    rw [e23_self ⟨a_1, a_2, a_3, a_4, a_5, a_6, a_7, a_8⟩, cond_true]
end Go.Proofs.YtijabmpcicddbaaDoor.ParseBlanks
