/- The evaluator ("VE"): plain laws of texts as lists of bytes: rows of texts, words between blanks, words put together. -/
import Derived.Test.YtijabmpcicddbaaVe32
import Derived.Test.YtijabmpcicddbaaVe33
import Derived.Test.YtijabmpcicddbaaVe26
set_option linter.unusedVariables false
set_option linter.unusedSimpArgs false
namespace Go.Ve
theorem bl_inj {a b : ByteArray} (h : a.data.toList = b.data.toList) : a = b := by
  obtain ⟨⟨a⟩⟩ := a
  obtain ⟨⟨b⟩⟩ := b
  have h : a = b := h
  rw [h]
theorem beq_bl (a b : ByteArray) : (a.toList == b.toList) = (a.data.toList == b.data.toList) := by
  cases h : (a.data.toList == b.data.toList) with
  | true => exact (ble_eq a b).2 (bl_inj (eq_of_beq h))
  | false =>
    cases h2 : (a.toList == b.toList) with
    | false => rfl
    | true =>
      rw [(ble_eq a b).1 h2, beq_self_eq_true] at h
      cases h
theorem beq_nil (a : ByteArray) : (a.toList == (⟨#[]⟩ : ByteArray).toList) = a.data.toList.isEmpty := by
  rw [beq_bl]
  cases a.data.toList <;> rfl
theorem bl_append (a b : ByteArray) : (a ++ b).data.toList = a.data.toList ++ b.data.toList := by simp [ByteArray.data_append]
theorem bl_size (a : ByteArray) : a.data.toList.length = a.size := rfl
theorem bl_extract (s : ByteArray) (i j : Nat) : (s.extract i j).data.toList = (s.data.toList.take j).drop i := by
  rw [ByteArray.data_extract, Array.toList_extract, List.extract_eq_take_drop, List.drop_take]
theorem bt_get (s : ByteArray) (i : Nat) (h : i < s.data.toList.length) : bt s (i : Int) = ((s.data.toList[i]).toNat : Int) := by
  unfold bt
  rw [Int.toNat_natCast]
  have h' : i < s.size := h
  rw [dif_pos h']
  rfl
/-- a row of texts -/
def TL (n : Nat) (f : Nat → Nat → PV) (L : List (List UInt8)) : Prop := L.length = n ∧ ∀ j (h : j < L.length), (textOf (f j 0)).data.toList = L[j]
theorem TL.nil (f : Nat → Nat → PV) : TL 0 f [] := ⟨rfl, fun j h => absurd h (Nat.not_lt_zero j)⟩
theorem TL.snoc {n : Nat} {f : Nat → Nat → PV} {L : List (List UInt8)} (h : TL n f L) (b : ByteArray) : TL (n + 1) (catf n f (rowOf 1 [.val (.string b)])) (L ++ [b.data.toList]) := by
  refine ⟨by simp [h.1], fun j hj => ?_⟩
  simp only [List.length_append, List.length_singleton] at hj
  have hn := h.1
  by_cases hl : j < L.length
  · rw [List.getElem_append_left hl]
    have : Nat.blt j n = true := Nat.ble_eq_true_of_le (by omega)
    show (textOf (bif Nat.blt j n then f j 0 else _)).data.toList = _
    rw [this, cond_true]
    exact h.2 j hl
  · obtain rfl : j = L.length := by omega
    have hb : Nat.blt L.length n = false := by
      cases hh : Nat.blt L.length n with
      | false => rfl
      | true => have := Nat.le_of_ble_eq_true hh; omega
    rw [List.getElem_append_right (Nat.le_refl _)]
    show (textOf (bif Nat.blt L.length n then f L.length 0 else rowOf 1 [.val (.string b)] (L.length - n) 0)).data.toList = _
    rw [hb, cond_false, show L.length - n = 0 by omega]
    simp
    rfl
theorem TL.rowL {n : Nat} {f : Nat → Nat → PV} {L : List (List UInt8)} (h : TL n f L) : (Ve.rowL n f).map (·.data.toList) = L := by
  apply List.ext_getElem
  · simp [Ve.rowL, h.1]
  · intro j h1 h2
    simp only [Ve.rowL, List.getElem_map, List.getElem_range]
    exact h.2 j h2
theorem TL.of (n : Nat) (f : Nat → Nat → PV) : TL n f ((List.range n).map fun j => (textOf (f j 0)).data.toList) := ⟨by simp, fun j h => by simp⟩
theorem TL.congr {n : Nat} {f g : Nat → Nat → PV} {L : List (List UInt8)} (h : TL n f L) (e : ∀ j, j < n → f j 0 = g j 0) : TL n g L := ⟨h.1, fun j hj => by rw [← e j (by rw [← h.1]; exact hj)]; exact h.2 j hj⟩
theorem TL.split (s sep : ByteArray) : TL (splitN s sep) (splitRow s sep) ((splitL s sep).map (·.data.toList)) := by
  refine ⟨by simp [splitN], fun j h => ?_⟩
  simp only [List.length_map] at h
  simp only [List.getElem_map]
  show ((splitL s sep).getD j ⟨#[]⟩).data.toList = _
  rw [List.getD_eq_getElem?_getD, List.getElem?_eq_getElem h]
  rfl
/-! ### words between blanks -/
def cutW : List UInt8 → List UInt8 → List (List UInt8)
  | cur, [] => bif cur.isEmpty then [] else [cur]
  | cur, c :: r => bif c == 32 then (bif cur.isEmpty then cutW [] r else cur :: cutW [] r) else cutW (cur ++ [c]) r
def words (l : List UInt8) : List (List UInt8) := cutW [] l
def ne (L : List (List UInt8)) : List (List UInt8) := L.filter fun x => !x.isEmpty
theorem ne_nil : ne [] = [] := rfl
theorem ne_cons (x : List UInt8) (L : List (List UInt8)) : ne (x :: L) = bif x.isEmpty then ne L else x :: ne L := by
  unfold ne
  cases h : x.isEmpty <;> simp [h]
theorem ne_append (A B : List (List UInt8)) : ne (A ++ B) = ne A ++ ne B := by simp [ne]
/-- a run without blanks, then a blank -/
theorem cutW_run : ∀ (a cur r : List UInt8), (∀ c ∈ a, c ≠ 32) → cutW cur (a ++ r) = cutW (cur ++ a) r
  | [], cur, r, _ => by simp
  | c :: a, cur, r, h => by
    have hc : (c == 32) = false := by simpa using h c (by simp)
    show (bif c == 32 then _ else cutW (cur ++ [c]) (a ++ r)) = _
    rw [hc, cond_false, cutW_run a (cur ++ [c]) r fun x hx => h x (by simp [hx])]
    simp
theorem cutW_blank (cur r : List UInt8) : cutW cur (32 :: r) = ne [cur] ++ cutW [] r := by
  show (bif (32 : UInt8) == 32 then (bif cur.isEmpty then cutW [] r else cur :: cutW [] r) else _) = _
  rw [beq_self_eq_true, cond_true, ne_cons]
  cases cur.isEmpty <;> rfl
theorem cutW_end (cur : List UInt8) : cutW cur [] = ne [cur] := by
  show (bif cur.isEmpty then [] else [cur]) = _
  rw [ne_cons]
  cases cur.isEmpty <;> rfl
theorem index_first (c : UInt8) : ∀ (l : List UInt8), (Lib.indexByte l c = -1 ∧ ∀ x ∈ l, x ≠ c) ∨ ∃ i : Nat, Lib.indexByte l c = (i : Int) ∧ l = l.take i ++ c :: l.drop (i + 1) ∧ ∀ x ∈ l.take i, x ≠ c
  | [] => .inl ⟨rfl, by simp⟩
  | b :: l => by
    unfold Lib.indexByte
    by_cases h : (b == c) = true
    · rw [if_pos h]
      exact .inr ⟨0, rfl, by rw [beq_iff_eq.1 h]; rfl, by simp⟩
    · rw [if_neg h]
      have hb : b ≠ c := by simpa using h
      rcases index_first c l with ⟨h1, h2⟩ | ⟨i, h1, h2, h3⟩
      · rw [if_pos (beq_iff_eq.2 h1)]
        refine .inl ⟨rfl, fun x hx => ?_⟩
        rcases List.mem_cons.1 hx with rfl | hx
        · exact hb
        · exact h2 x hx
      · rw [if_neg (by rw [h1, beq_iff_eq]; omega), h1]
        refine .inr ⟨i + 1, by omega, ?_, fun x hx => ?_⟩
        · have : b :: l = b :: (l.take i ++ c :: l.drop (i + 1)) := by rw [← h2]
          simpa using this
        · rw [List.take_succ_cons] at hx
          rcases List.mem_cons.1 hx with rfl | hx
          · exact hb
          · exact h3 x hx
theorem ne_splitK : ∀ (k : Nat) (l : List UInt8), l.count 32 ≤ k → ne (Lib.splitK [32] 0 k l) = words l
  | 0, l, h => by
    have hx : ∀ x ∈ l, x ≠ 32 := fun x hx e => by
      have : 0 < l.count 32 := List.count_pos_iff.2 (e ▸ hx)
      omega
    have := cutW_run l [] [] hx
    rw [List.append_nil, List.nil_append] at this
    show ne [l] = cutW [] l
    rw [this, cutW_end]
  | k + 1, l, h => by
    unfold Lib.splitK
    rw [Lib.index_one]
    rcases index_first 32 l with ⟨h1, hx⟩ | ⟨i, h1, h2, h3⟩
    · rw [if_pos (beq_iff_eq.2 h1)]
      have := cutW_run l [] [] hx
      rw [List.append_nil, List.nil_append] at this
      show ne [l] = cutW [] l
      rw [this, cutW_end]
    · rw [if_neg (by rw [h1, beq_iff_eq]; omega), h1]
      have hc : (l.drop (i + 1)).count 32 ≤ k := by
        have e : l.count 32 = (l.take i ++ 32 :: l.drop (i + 1)).count 32 := by rw [← h2]
        rw [List.count_append, List.count_cons] at e
        simp only [beq_self_eq_true, if_true] at e
        omega
      have hr : words l = ne [l.take i] ++ words (l.drop (i + 1)) := by
        have e : words l = words (l.take i ++ 32 :: l.drop (i + 1)) := by rw [← h2]
        rw [e]
        show cutW [] _ = _
        rw [cutW_run _ _ _ h3, List.nil_append, cutW_blank]
        rfl
      rw [hr]
      have ih := ne_splitK k (l.drop (i + 1)) hc
      rw [← ih]
      rw [show ∀ (x : List UInt8) (L : List (List UInt8)), ne (x :: L) = ne [x] ++ ne L from fun x L => by rw [show x :: L = [x] ++ L from rfl, ne_append]]
      simp
theorem ne_split (s : ByteArray) : ne ((splitL s ⟨#[32]⟩).map (·.data.toList)) = words s.data.toList := by
  rw [splitL_eq, List.map_map]
  rw [show ((fun x : ByteArray => x.data.toList) ∘ fun l : List UInt8 => (⟨l.toArray⟩ : ByteArray)) = id from rfl, List.map_id]
  exact ne_splitK _ _ (Nat.le_refl _)
theorem splitN_le (s : ByteArray) : splitN s ⟨#[32]⟩ ≤ s.size + 1 := by
  have hl : splitN s ⟨#[32]⟩ = Lib.countB s ⟨#[32]⟩ + 1 := Lib.splitB_all ⟨#[32]⟩ (Nat.le_refl 1) 0 _ s rfl
  have := Lib.countB_le ⟨#[32]⟩ (Nat.le_refl 1) s.size s (Nat.le_refl _)
  omega
/-! ### words put together -/
def joinW (L : List (List UInt8)) : List UInt8 := Lib.join L [32]
theorem joinW_nil : joinW [] = [] := rfl
theorem joinW_one (x : List UInt8) : joinW [x] = x := by simp [joinW, Lib.join, List.intercalate]
theorem joinW_two (x y : List UInt8) (L : List (List UInt8)) : joinW (x :: y :: L) = x ++ 32 :: joinW (y :: L) := by
  unfold joinW
  rw [join_two _ _ _ (by simp)]
  simp
theorem joinW_snoc : ∀ (L : List (List UInt8)) (x : List UInt8), L ≠ [] → joinW (L ++ [x]) = joinW L ++ 32 :: x
  | [], x, h => absurd rfl h
  | [y], x, _ => by rw [show [y] ++ [x] = [y, x] from rfl, joinW_two, joinW_one, joinW_one]
  | y :: z :: L, x, _ => by
    rw [show y :: z :: L ++ [x] = y :: z :: (L ++ [x]) from rfl, joinW_two, joinW_two, show z :: (L ++ [x]) = (z :: L) ++ [x] from rfl, joinW_snoc (z :: L) x (by simp)]
    simp
def Good (L : List (List UInt8)) : Prop := ∀ w ∈ L, w ≠ [] ∧ ∀ c ∈ w, c ≠ 32
theorem words_join : ∀ (L : List (List UInt8)), Good L → words (joinW L) = L
  | [], _ => rfl
  | [x], h => by
    obtain ⟨h1, h2⟩ := h x (by simp)
    rw [joinW_one]
    have := cutW_run x [] [] h2
    rw [List.append_nil, List.nil_append] at this
    show cutW [] x = _
    rw [this, cutW_end, ne_cons]
    cases x with
    | nil => exact absurd rfl h1
    | cons => rfl
  | x :: y :: L, h => by
    obtain ⟨h1, h2⟩ := h x (by simp)
    rw [joinW_two]
    show cutW [] _ = _
    rw [cutW_run x _ _ h2, List.nil_append, cutW_blank]
    have ih := words_join (y :: L) fun w hw => h w (List.mem_cons_of_mem _ hw)
    unfold words at ih
    rw [ih, ne_cons]
    cases x with
    | nil => exact absurd rfl h1
    | cons => rfl
theorem cutW_good : ∀ (l cur : List UInt8), (∀ c ∈ cur, c ≠ 32) → Good (cutW cur l)
  | [], cur, h => by
    rw [cutW_end]
    intro w hw
    simp only [ne, List.mem_filter, List.mem_singleton, Bool.not_eq_true'] at hw
    obtain ⟨rfl, hw⟩ := hw
    exact ⟨fun e => (by rw [e] at hw; cases hw), h⟩
  | c :: r, cur, h => by
    by_cases hc : c = 32
    · subst hc
      rw [cutW_blank]
      intro w hw
      rcases List.mem_append.1 hw with hv | hv
      · simp only [ne, List.mem_filter, List.mem_singleton, Bool.not_eq_true'] at hv
        obtain ⟨e0, hz⟩ := hv
        subst e0
        exact ⟨fun e => (by rw [e] at hz; exact absurd hz (by simp)), h⟩
      · exact cutW_good r [] (by simp) w hv
    · have hb : (c == 32) = false := by simpa using hc
      show Good (bif c == 32 then _ else cutW (cur ++ [c]) r)
      rw [hb, cond_false]
      refine cutW_good r _ fun x hx => ?_
      rcases List.mem_append.1 hx with hx | hx
      · exact h x hx
      · rw [List.mem_singleton.1 hx]; exact hc
theorem words_good (l : List UInt8) : Good (words l) := cutW_good l [] (by simp)
theorem Good.ne {L : List (List UInt8)} (h : Good L) : Ve.ne L = L := by
  unfold Ve.ne
  rw [List.filter_eq_self]
  intro w hw
  have := (h w hw).1
  cases w with
  | nil => exact absurd rfl this
  | cons => rfl
/-- how many signs -/
def bulk : List (List UInt8) → Nat
  | [] => 0
  | x :: L => x.length + 1 + bulk L
theorem bulk_append (A B : List (List UInt8)) : bulk (A ++ B) = bulk A + bulk B := by
  induction A with
  | nil => simp [bulk]
  | cons x A ih => simp only [List.cons_append, bulk, ih]; omega
theorem bulk_ne (L : List (List UInt8)) : bulk (ne L) ≤ bulk L := by
  induction L with
  | nil => exact Nat.le_refl _
  | cons x L ih =>
    rw [ne_cons]
    cases x.isEmpty with
    | true => rw [cond_true]; simp only [bulk]; omega
    | false => rw [cond_false]; simp only [bulk]; omega
theorem bulk_len (L : List (List UInt8)) : L.length ≤ bulk L := by
  induction L with
  | nil => exact Nat.le_refl _
  | cons x L ih => simp only [List.length_cons, bulk]; omega
theorem joinW_len : ∀ (L : List (List UInt8)), (joinW L).length ≤ bulk L
  | [] => Nat.le_refl _
  | [x] => by rw [joinW_one]; simp only [bulk]; omega
  | x :: y :: L => by
    have ih := joinW_len (y :: L)
    rw [joinW_two, List.length_append, List.length_cons]
    show _ ≤ x.length + 1 + bulk (y :: L)
    omega
theorem cutW_bulk : ∀ (l cur : List UInt8), bulk (cutW cur l) ≤ cur.length + l.length + 1
  | [], cur => by
    rw [cutW_end]
    have := bulk_ne [cur]
    simp only [bulk] at this
    simp only [List.length_nil]
    omega
  | c :: r, cur => by
    by_cases hc : c = 32
    · subst hc
      rw [cutW_blank, bulk_append]
      have h1 := bulk_ne [cur]
      have h2 := cutW_bulk r []
      simp only [bulk, List.length_nil, List.length_cons] at *
      omega
    · have hb : (c == 32) = false := by simpa using hc
      show bulk (bif c == 32 then _ else cutW (cur ++ [c]) r) ≤ _
      rw [hb, cond_false]
      have := cutW_bulk r (cur ++ [c])
      simp only [List.length_append, List.length_cons, List.length_nil] at *
      omega
theorem words_bulk (l : List UInt8) : bulk (words l) ≤ l.length + 1 := by
  have := cutW_bulk l []
  simp only [List.length_nil, Nat.zero_add] at this
  exact this
theorem cutW_tail : ∀ (l cur : List UInt8), cutW cur (l ++ [32, 32]) = cutW cur l
  | [], cur => by
    rw [List.nil_append, cutW_blank, cutW_blank, cutW_end, cutW_end]
    simp [ne]
  | c :: r, cur => by
    by_cases hc : c = 32
    · subst hc
      rw [List.cons_append, cutW_blank, cutW_blank, cutW_tail r []]
    · have hb : (c == 32) = false := by simpa using hc
      show (bif c == 32 then _ else cutW (cur ++ [c]) (r ++ [32, 32])) = (bif c == 32 then _ else cutW (cur ++ [c]) r)
      rw [hb, cond_false, cond_false, cutW_tail r _]
theorem words_tail (l : List UInt8) : words (l ++ [32, 32]) = words l := cutW_tail l []
theorem joinS_eq {n : Nat} {f : Nat → Nat → PV} {L : List (List UInt8)} (h : TL n f L) : joinS n f ⟨#[32]⟩ = ⟨(joinW L).toArray⟩ := by
  unfold joinS
  rw [h.rowL]
  rfl
theorem joinOk_of {n : Nat} {f : Nat → Nat → PV} {L : List (List UInt8)} (h : TL n f L) (hb : bulk L ≤ 140737488355328) : joinOk n f ⟨#[32]⟩ = true := by
  unfold joinOk
  rw [h.rowL, ← h.1]
  have h1 := bulk_len L
  have h2 := joinW_len L
  rw [ble_true (by omega), ble_true (show (Lib.join L [32]).length ≤ _ by exact Nat.le_trans h2 hb)]
  rfl
theorem splitOk_of {s : ByteArray} (h : s.size ≤ 4000000000) : splitOk s ⟨#[32]⟩ = true := by
  unfold splitOk
  rw [ble_true (by omega)]
  rfl
theorem bulk_le {m : Nat} : ∀ {L : List (List UInt8)}, (∀ w ∈ L, w.length ≤ m) → bulk L ≤ L.length * (m + 1)
  | [], _ => by simp [bulk]
  | x :: L, h => by
    have h1 := h x (by simp)
    have h2 := bulk_le (L := L) fun w hw => h w (List.mem_cons_of_mem _ hw)
    simp only [bulk, List.length_cons, Nat.add_mul]
    omega
theorem bulk_row {n m : Nat} {f : Nat → Nat → PV} (h : ∀ j, j < n → (textOf (f j 0)).size ≤ m) : bulk ((List.range n).map fun j => (textOf (f j 0)).data.toList) ≤ n * (m + 1) := by
  have := bulk_le (m := m) (L := (List.range n).map fun j => (textOf (f j 0)).data.toList) fun w hw => by
    obtain ⟨j, hj, rfl⟩ := List.mem_map.1 hw
    exact h j (List.mem_range.1 hj)
  simpa using this
end Go.Ve
