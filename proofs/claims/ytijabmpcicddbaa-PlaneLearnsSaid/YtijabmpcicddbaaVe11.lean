/- The evaluator ("VE"): appends; a string's bytes. -/
import Derived.Test.YtijabmpcicddbaaVe10
import Derived.Lib.ConvBytes
set_option linter.unusedVariables false
set_option linter.unusedSimpArgs false
namespace Go.Ve
section
variable {P : Program} {t : List (Nat × AV)} {h : List (Nat × AObj)} {nx : Nat} {u : Upd}

/-- a row's cells, one by one -/
theorem bt_cell (s : ByteArray) (j : Nat) (hj : j < s.size) : (byteCells s)[j]? = some (.int .u8 (bt s (j : Int))) := by
  unfold byteCells bt
  have h1 : j < s.data.toList.length := by simpa using hj
  rw [List.getElem?_map, List.getElem?_eq_getElem h1]
  simp [hj]
  rfl

theorem u8row {n : Nat} (g : Nat → Int) : RowK (.int .u8 .nil) n (fun j _ => .val (.int .u8 (g j))) := fun j hj c => by
  cases c with
  | zero => exact ⟨_, rfl⟩
  | succ c => rw [kDrop_succ]; show ckOk (kDrop .nil c) _; rw [kDrop_nil]; trivial
theorem appSrc_rel {U : Nat} {ud td : TD} (hU : TdOk P U ud) {x : CV} {k : CK} {m : Nat} {g : Nat → Nat → PV} {r : List Nat} (hx : appSrc h td ud.k x = some (k, m, g, r)) {E : Env} (hE : E.ok) (hrd : ∀ id, id ∈ r → E.H id = aget h id) {v : Value} (hv : RC E x v) :
    RowK k m g ∧ ∃ news, Src P td.size U v m news E.w ∧ ∀ j, j < m → ∀ c, c < td.size → ∃ y, news[j * td.size + c]? = some y ∧ RP E.S E.w (g j c) y := by
  unfold appSrc at hx
  split at hx
  · rename_i b hk1 hk2
    obtain ⟨h1, hx⟩ := cond_some hx
    have h1 := Nat.eq_of_beq_eq_true h1
    simp only [Option.some.injEq, Prod.mk.injEq] at hx
    obtain ⟨rfl, rfl, rfl, rfl⟩ := hx
    obtain ⟨rfl, _⟩ := hv
    refine ⟨u8row fun j => _, byteCells b, ?_, fun j hj c hc => ?_⟩
    · rw [h1]
      exact Src.ofString _ (und_str hU hk1) b
    · have : c = 0 := by omega
      subst this
      rw [h1]
      exact ⟨_, by rw [Nat.mul_one, Nat.add_zero]; exact bt_cell b j hj, rfl, rfl⟩
  · rename_i e' hk
    obtain ⟨hkk, a, c, rfl, hnc, ha, hcell⟩ := readSl_rel hx hE hrd hv
    refine ⟨hkk, ?_⟩
    by_cases hm : m = 0
    · subst hm
      refine ⟨[], ?_, fun j hj => absurd hj (by omega)⟩
      cases a with
      | none => exact Src.ofNil _ (und_slc hU hk) c
      | some a => exact Src.ofSlice _ (und_slc hU hk) a 0 c [] (by simp) (fun j u hu => by simp at hu) (fun u hu => by simp at hu)
    · obtain ⟨b, o, rfl, hc2⟩ := hcell (by omega)
      have hget : ∀ i, i < m * td.size → ∃ y, E.w.cell? ⟨b, o + i, none⟩ = some y ∧ y.oneCell' = true := by
        intro i hi
        have hpos : 0 < td.size := Nat.pos_of_ne_zero fun e => by rw [e] at hi; simp at hi
        obtain ⟨y, hy, hr⟩ := hc2 (i / td.size) (Nat.div_lt_of_lt_mul (by rw [Nat.mul_comm]; exact hi)) (i % td.size) (Nat.mod_lt _ hpos)
        refine ⟨y, ?_, RP.one hr⟩
        rw [← hy]
        congr 2
        have := Nat.div_add_mod' i td.size
        omega
      refine ⟨(List.range (m * td.size)).map fun i => (E.w.cell? ⟨b, o + i, none⟩).getD undef, ?_, fun j hj q hq => ?_⟩
      · refine Src.ofSlice _ (und_slc hU hk) ⟨b, o, none⟩ m c _ (by simp) (fun j u hu => ?_) (fun u hu => ?_)
        · rw [List.getElem?_map] at hu
          by_cases hj : j < m * td.size
          · obtain ⟨y, hy, _⟩ := hget j hj
            rw [List.getElem?_range hj] at hu
            simp [hy] at hu
            rw [add_plain, hy, hu]
          · rw [List.getElem?_eq_none (by simpa using hj)] at hu
            simp at hu
        · obtain ⟨i, hi, rfl⟩ := List.mem_map.1 hu
          obtain ⟨y, hy, h1⟩ := hget i (by simpa using hi)
          simpa [hy] using h1
      · have hlt : j * td.size + q < m * td.size := by
          have : (j + 1) * td.size ≤ m * td.size := Nat.mul_le_mul_right _ hj
          rw [Nat.add_mul] at this
          omega
        obtain ⟨y, hy, hr⟩ := hc2 j hj q hq
        refine ⟨y, ?_, hr⟩
        rw [List.getElem?_map, List.getElem?_range hlt]
        simp only [Option.map_some, Option.some.injEq]
        rw [show o + (j * td.size + q) = o + j * td.size + q by omega, hy]
        rfl
  · cases hx

/-- zeros that are appended: append(s, make([]T, l)...) -/
structure SrcZ (P : Program) (z : Value) (bytes tx : Nat) (x : Value) (n : Nat) (news : List Value) : Prop where
  kind : ∃ k, P.underlying tx = some (.int k)
  val : ∃ k, x = .int k (n : Int)
  small : (n : Int) ≤ 4611686018427387904
  fit : n * bytes ≤ 281474976710656
  cells : news.toArray = Builtin.zeroCells z.cells n
def SrcA (P : Program) (z : Value) (size bytes tx : Nat) (x : Value) (n : Nat) (news : List Value) (w : World) : Prop := Src P size tx x n news w ∨ SrcZ P z bytes tx x n news
theorem SrcZ.news_eq {z : Value} {bytes tx : Nat} {x : Value} {n : Nat} {news : List Value} (h : SrcZ P z bytes tx x n news) : news = (Builtin.zeroCells z.cells n).toList := by
  have := congrArg Array.toList h.cells
  simpa using this
theorem zeroCells_get (cells : Array Value) (n i : Nat) (hi : i < n * cells.size) : (Builtin.zeroCells cells n)[i]? = cells[i % cells.size]? := by
  have hpos : 0 < cells.size := Nat.pos_of_ne_zero fun e => by rw [e] at hi; simp at hi
  have hlt := Nat.mod_lt i hpos
  simp [Builtin.zeroCells, hi, hlt, getElem!_pos]
theorem SrcA.newsLen {z : Value} {size bytes tx : Nat} {x : Value} {n : Nat} {news : List Value} {w : World} (hz : z.cells.size = size) (h : SrcA P z size bytes tx x n news w) : news.length = n * size := by
  rcases h with h | h
  · exact h.newsLen
  · rw [h.news_eq]; simp [Builtin.zeroCells, hz]
theorem wrap_small {n : Nat} (h : (n : Int) ≤ 4611686018427387904) : IntKind.i64.wrap (n : Int) = (n : Int) := IntWalk.i64_in _ (by omega)
theorem run_append_room_any (w : World) (t tx ty e : TypeId) (i : TypeInfo) (z : Value) (ht : P.underlying t = some (.slice e)) (hi : P.info? e = some i) (hz : i.zero = some z) (hz1 : ∀ u ∈ z.cells.toList, u.oneCell' = true) (hzs : z.cells.size = i.size) (b off sLen sCap : Nat) (x : Value) (n : Nat) (news : List Value) (hs : SrcA P z i.size i.bytes tx x n news w)
    (hroom : sLen + n ≤ sCap) (hc : ∀ j, j < news.length → (w.cell? ⟨b, off + sLen * i.size + j, none⟩).isSome = true) (hf : ∀ j, j < news.length → w.frozen? ⟨b, off + sLen * i.size + j, none⟩ = false) :
    (Builtin.append_ #[t, tx] ty #[.slice (some ⟨b, off, none⟩) sLen sCap, x]).run P w = .ok (.slice (some ⟨b, off, none⟩) (sLen + n) sCap) (w.setCells b (off + sLen * i.size) news) := by
  rcases hs with hs | hs
  · exact run_append_room_src w t tx ty e i ht hi b off sLen sCap x n news hs hroom hc hf
  · have hone : ∀ u ∈ news, u.oneCell' = true := by
      rw [hs.news_eq]
      intro u hu
      obtain ⟨j, hj, rfl⟩ := List.mem_iff_getElem.1 hu
      have hj' : j < n * z.cells.size := by simpa [Builtin.zeroCells] using hj
      have := zeroCells_get z.cells n j hj'
      have hpos : 0 < z.cells.size := Nat.pos_of_ne_zero fun e => by rw [e] at hj'; simp at hj'
      have hlt := Nat.mod_lt j hpos
      rw [Array.getElem_toList]
      have h1 : (Builtin.zeroCells z.cells n)[j]? = some (Builtin.zeroCells z.cells n)[j] := by simp
      rw [h1, Array.getElem?_eq_getElem hlt] at this
      injection this with this
      rw [this]
      exact hz1 _ (by simp)
    have hst := run_storeCells_cells (P := P) b (off + sLen * i.size) news 0 w (by simpa using hc) (by simpa using hf) hone
    simp only [Nat.add_zero] at hst
    obtain ⟨k, hk⟩ := hs.kind
    obtain ⟨k', rfl⟩ := hs.val
    have h1 := wrap_small hs.small
    have h2 : ¬ ((281474976710656 : Int) < (n : Int) * (i.bytes : Int)) := by have := hs.fit; rw [← Int.natCast_mul]; omega
    have h0 : ¬ ((n : Int) < 0) := by omega
    by_cases hns : n * i.size = 0
    · have hnl : news = [] := List.eq_nil_of_length_eq_zero (by rw [hs.news_eq]; simp [Builtin.zeroCells, hzs, hns])
      subst hnl
      simp [Builtin.append_, run_underlying ht, run_underlying hk, sizeOf, typeInfo, hi, asInt, asIntOf, h1, h0, h2, hroom, hns, Addr.add_lit, hst]
    · simp [Builtin.append_, run_underlying ht, run_underlying hk, sizeOf, typeInfo, zeroValue, hi, hz, asInt, asIntOf, h1, h0, h2, hroom, hns, Addr.add_lit, ← hs.cells, hst]
theorem run_append_grow_any (w : World) (t tx ty e : TypeId) (i : TypeInfo) (z : Value) (ht : P.underlying t = some (.slice e)) (hi : P.info? e = some i) (hz : i.zero = some z) (hzs : z.cells.size = i.size) (base : Option Addr) (sLen sCap : Nat) (olds : List Value)
    (hold : (Builtin.firstCells i.size sLen (.slice base sLen sCap)).run P w.drew = .ok olds.toArray w.drew) (x : Value) (n : Nat) (news : List Value) (hs : SrcA P z i.size i.bytes tx x n news w)
    (hg : sCap < sLen + n) (h63 : ((sLen + n : Nat) : Int) ≤ 9223372036854775807) (hfit : Builtin.nextslicecap (sLen + n) sCap * i.bytes ≤ 281474976710656) :
    (Builtin.append_ #[t, tx] ty #[.slice base sLen sCap, x]).run P w =
      .ok (.slice (some ⟨w.heap.size, 0, none⟩) (sLen + n) (grownCap w (sLen + n) sCap e))
        (w.drew.alloc (.cells ((olds ++ news).toArray ++ Builtin.zeroCells z.cells (grownCap w (sLen + n) sCap e - (sLen + n))) e)) := by
  rcases hs with hs | hs
  · exact run_append_grow_src w t tx ty e i z ht hi hz base sLen sCap olds hold x n news hs hg h63 hfit
  · have hn : ¬ (sLen + n ≤ sCap) := by omega
    have h63' : ¬ (9223372036854775807 < ((sLen : Int) + (n : Int))) := by omega
    have h48' : ¬ (281474976710656 < Builtin.nextslicecap (sLen + n) sCap * i.bytes) := by omega
    obtain ⟨k, hk⟩ := hs.kind
    obtain ⟨k', rfl⟩ := hs.val
    have h1 := wrap_small hs.small
    have h2 : ¬ ((281474976710656 : Int) < (n : Int) * (i.bytes : Int)) := by have := hs.fit; rw [← Int.natCast_mul]; omega
    have h0 : ¬ ((n : Int) < 0) := by omega
    by_cases hns : n * i.size = 0
    · have hnl : news = [] := List.eq_nil_of_length_eq_zero (by rw [hs.news_eq]; simp [Builtin.zeroCells, hzs, hns])
      subst hnl
      simp [Builtin.append_, run_underlying ht, run_underlying hk, sizeOf, typeInfo, zeroValue, hi, hz, asInt, asIntOf, h1, h0, h2, hn, h63', h48', hns, Question.forced, hold, newRow, grownCap]
    · simp [Builtin.append_, run_underlying ht, run_underlying hk, sizeOf, typeInfo, zeroValue, hi, hz, asInt, asIntOf, h1, h0, h2, hn, h63', h48', hns, Question.forced, hold, newRow, grownCap, ← hs.cells]
      congr 2
      apply Array.ext'
      simp [List.append_assoc]

/-- two rows behind one another -/
theorem cat_get {esz n m : Nat} {olds news : List Value} (rest : List Value) (ho : olds.length = n * esz) {f g : Nat → Nat → PV} {S : Nat → Prop} {w : World} (hf : ∀ j, j < n → ∀ c, c < esz → ∃ y, olds[j * esz + c]? = some y ∧ RP S w (f j c) y)
    (hg : ∀ j, j < m → ∀ c, c < esz → ∃ y, news[j * esz + c]? = some y ∧ RP S w (g j c) y) : ∀ j, j < n + m → ∀ c, c < esz → ∃ y, (olds ++ news ++ rest)[j * esz + c]? = some y ∧ RP S w (catf n f g j c) y := by
  intro j hj c hc
  unfold catf
  by_cases h1 : j < n
  · have hb : Nat.blt j n = true := Nat.ble_eq_true_of_le h1
    rw [hb, cond_true]
    obtain ⟨y, hy, hr⟩ := hf j h1 c hc
    have := (List.getElem?_eq_some_iff.1 hy).1
    exact ⟨y, by rw [List.append_assoc, List.getElem?_append_left this]; exact hy, hr⟩
  · have hb : Nat.blt j n = false := by
      cases hb : Nat.blt j n with
      | false => rfl
      | true => exact absurd (Nat.le_of_ble_eq_true hb) (by omega)
    rw [hb, cond_false]
    obtain ⟨y, hy, hr⟩ := hg (j - n) (by omega) c hc
    have := (List.getElem?_eq_some_iff.1 hy).1
    have hjn : j * esz = n * esz + (j - n) * esz := by rw [← Nat.add_mul]; congr 1; omega
    refine ⟨y, ?_, hr⟩
    rw [hjn, List.append_assoc, List.getElem?_append_right (by omega), ho, show n * esz + (j - n) * esz + c - n * esz = (j - n) * esz + c by omega, List.getElem?_append_left this]
    exact hy
theorem cat_kind {k k' : CK} {n m : Nat} {f g : Nat → Nat → PV} (hf : RowK k' n f) (hg : RowK k m g) : RowK (joinK k' k m) (n + m) (catf n f g) := by
  intro j hj c
  unfold catf
  by_cases h1 : j < n
  · have hb : Nat.blt j n = true := Nat.ble_eq_true_of_le h1
    rw [hb, cond_true]
    unfold joinK
    cases hke : ckEq k' k with
    | true => rw [cond_true, ← ckEq_eq hke]; exact hf j h1 c
    | false =>
      rw [cond_false]
      split
      · exact hf j h1 c
      · rw [kDrop_nil]; trivial
  · have hb : Nat.blt j n = false := by
      cases hb : Nat.blt j n with
      | false => rfl
      | true => exact absurd (Nat.le_of_ble_eq_true hb) (by omega)
    rw [hb, cond_false]
    unfold joinK
    cases hke : ckEq k' k with
    | true => rw [cond_true]; exact hg (j - n) (by omega) c
    | false =>
      rw [cond_false]
      split
      · omega
      · rw [kDrop_nil]; trivial

theorem put_get {esz n m j : Nat} {news : List Value} {cs : Array Value} (hnl : news.length = m * esz) {f g : Nat → Nat → PV} {S : Nat → Prop} {w : World} (hf : ∀ c, c < esz → ∃ y, cs[j * esz + c]? = some y ∧ RP S w (f j c) y)
    (hg : ∀ j, j < m → ∀ c, c < esz → ∃ y, news[j * esz + c]? = some y ∧ RP S w (g j c) y) : ∀ c, c < esz → ∃ y, (if n * esz ≤ j * esz + c ∧ j * esz + c < n * esz + news.length then news[j * esz + c - n * esz]? else cs[j * esz + c]?) = some y ∧ RP S w (putf n m f g j c) y := by
  intro c hc
  unfold putf
  by_cases h1 : n ≤ j ∧ j < n + m
  · have hb1 : Nat.ble n j = true := Nat.ble_eq_true_of_le h1.1
    have hb2 : Nat.blt j (n + m) = true := Nat.ble_eq_true_of_le h1.2
    rw [hb1, hb2, Bool.and_true, cond_true]
    obtain ⟨i, rfl⟩ : ∃ i, j = n + i := ⟨j - n, by omega⟩
    have h2 : (i + 1) * esz ≤ m * esz := Nat.mul_le_mul_right _ (by omega)
    rw [Nat.add_mul] at h2
    rw [if_pos (by rw [Nat.add_mul]; omega)]
    obtain ⟨y, hy, hr⟩ := hg i (by omega) c hc
    refine ⟨y, ?_, by rw [Nat.add_sub_cancel_left]; exact hr⟩
    rw [← hy]
    congr 1
    rw [Nat.add_mul]
    omega
  · have hb : (Nat.ble n j && Nat.blt j (n + m)) = false := by
      cases hb : (Nat.ble n j && Nat.blt j (n + m)) with
      | false => rfl
      | true =>
        rw [Bool.and_eq_true] at hb
        exact absurd ⟨Nat.le_of_ble_eq_true hb.1, Nat.le_of_ble_eq_true hb.2⟩ h1
    rw [hb, cond_false, if_neg]
    · exact hf c hc
    · rintro ⟨h2, h3⟩
      rcases Nat.lt_or_ge j n with h4 | h4
      · have : (j + 1) * esz ≤ n * esz := Nat.mul_le_mul_right _ h4
        rw [Nat.add_mul] at this
        omega
      · have : (n + m) * esz ≤ j * esz := Nat.mul_le_mul_right _ (by omega)
        rw [Nat.add_mul] at this
        omega
theorem put_kind {k k' : CK} {N n m : Nat} {f g : Nat → Nat → PV} (hf : RowK k' N f) (hg : RowK k m g) : RowK (joinK k' k m) N (putf n m f g) := by
  intro j hj c
  unfold putf
  cases hb : (Nat.ble n j && Nat.blt j (n + m)) with
  | false =>
    rw [cond_false]
    unfold joinK
    cases hke : ckEq k' k with
    | true => rw [cond_true, ← ckEq_eq hke]; exact hf j hj c
    | false =>
      rw [cond_false]
      split
      · exact hf j hj c
      · rw [kDrop_nil]; trivial
  | true =>
    rw [cond_true]
    rw [Bool.and_eq_true] at hb
    have h1 := Nat.le_of_ble_eq_true hb.1
    have h2 : j < n + m := Nat.le_of_ble_eq_true hb.2
    unfold joinK
    cases hke : ckEq k' k with
    | true => rw [cond_true]; exact hg (j - n) (by omega) c
    | false =>
      rw [cond_false]
      split
      · omega
      · rw [kDrop_nil]; trivial
theorem call_in {c : Call} {b : Builtin} (hc : c.callee = .builtin b) {y : Operand} (hy : y ∈ c.args) : y ∈ (Op.call c).operands.toList := by
  simp [Op.operands, Call.operands, hc, hy]
theorem bi_append (ats : Array TypeId) (ty : TypeId) (cs : Array Bool) (args : Array Value) : builtin .append ats ty cs args = (do pure (.value (← Builtin.append_ ats ty args))) := rfl
theorem call_run {c : Call} {b : Builtin} (hc : c.callee = .builtin b) {o : Oper} (ho : o.op = .call c) (ρ : Operand → Value) : execOp ρ o = builtin b c.argTypes o.type (c.args.map fun | .const _ => true | _ => false) (c.args.map ρ) := by
  obtain ⟨dst, op, ty, pos, after, guard⟩ := o
  obtain ⟨callee, args, ats⟩ := c
  simp only at ho hc
  subst ho
  subst hc
  rfl

theorem ok_append {tt : Nat → Option TD} (hT : TT P tt) {c : Call} (hc : c.callee = .builtin .append) {T U : Nat} (hty : c.argTypes.toList = [T, U]) {ud : TD} (hud : tt U = some ud) {s x : CV} (hargs : opvs t c.args.toList = some [.v (.c s), .v (.c x)])
    (hu : (evAppend tt h nx T ud.k s x).get = some u) : OpOk P (.call c) t h nx u := by
  have hats : c.argTypes = #[T, U] := by rw [← Array.toArray_toList (xs := c.argTypes), hty]
  unfold evAppend at hu
  split at hu
  · rename_i e sz by' z phl htd
    have ht := hT T _ htd
    have htu := und_slc ht rfl
    split at hu
    · rename_i ed hed
      have he := hT e ed hed
      obtain ⟨i, zv, hi, hi1, hi2, hi3, hi4⟩ := he.inf
      have hzs : zv.cells.size = ed.size := by rw [← Array.length_toList, hi4, he.len]
      have hz1 : ∀ u ∈ zv.cells.toList, u.oneCell' = true := by rw [hi4]; exact he.one
      have core : ∀ (k : CK) (m : Nat) (g : Nat → Nat → PV) (r : List Nat), (∀ (E : Env), E.ok → (∀ id, id ∈ r → E.H id = aget h id) → ∀ v, RC E x v → RowK k m g ∧ ∃ news, (m * ed.bytes ≤ 281474976710656 → SrcA P zv ed.size ed.bytes U v m news E.w) ∧ ∀ j, j < m → ∀ c, c < ed.size → ∃ y, news[j * ed.size + c]? = some y ∧ RP E.S E.w (g j c) y) →
          (evApp h nx ed s k m g r).get = some u → OpOk P (.call c) t h nx u := by
        clear hu
        intro k m g r hrel hu
        unfold evApp at hu
        cases hbb : (Nat.ble ed.bytes 65536 && Nat.ble 1 ed.bytes) with
        | false => simp only [hbb, cond_false, Stp.get] at hu; cases hu
        | true =>
          simp only [hbb, cond_true] at hu
          simp only [Bool.and_eq_true] at hbb
          have hb1 := Nat.le_of_ble_eq_true hbb.2
          -- what is told of the operands
          have args : ∀ {u : Upd} (E : Env) (a : Act), Ahead E a t h nx (.call c) u → ∃ sv xv, c.args.map a.eval = #[sv, xv] ∧ RC E s sv ∧ RC E x xv := by
            intro u E a hA
            have hr := opvs_rel hargs (fun y hy => call_in hc (by simpa using hy)) hA
            generalize hl : c.args.toList.map a.eval = l at hr
            cases hr with
            | cons h1 hr =>
              cases hr with
              | cons h2 hr =>
                cases hr
                exact ⟨_, _, by apply Array.ext'; simp [hl], h1, h2⟩
          have hfit : ∀ need old, old < need → need * ed.bytes ≤ bound → ((need : Nat) : Int) ≤ 9223372036854775807 ∧ Builtin.nextslicecap need old * i.bytes ≤ 281474976710656 := by
            intro need old h1 h2
            have h3 : need * 1 ≤ need * ed.bytes := Nat.mul_le_mul_left _ hb1
            unfold bound at h2
            refine ⟨by omega, ?_⟩
            rw [hi2]
            exact growslice_fits h1 (by omega)
          have nil0 : ∀ {E : Env} {xv : Value} {news : List Value} {ty : TypeId}, SrcA P zv ed.size ed.bytes U xv 0 news E.w → (Builtin.append_ #[T, U] ty #[.slice none 0 0, xv]).run P E.w = .ok (.slice none 0 0) E.w := by
            intro E xv news ty hs
            have hnl : news = [] := List.eq_nil_of_length_eq_zero (by rw [hs.newsLen hzs]; simp)
            rcases hs with hs | hs
            · have hcells := hs.cells
              rcases hs.kind with ⟨e', hk⟩ | hk <;> simp [Builtin.append_, Go.run_underlying htu, Go.run_underlying hk, he.run_sizeOf, hs.len, hcells, hnl]
            · obtain ⟨k1, hk1⟩ := hs.kind
              obtain ⟨k2, rfl⟩ := hs.val
              have hw0 : IntKind.i64.wrap 0 = 0 := by decide
              simp [Builtin.append_, Go.run_underlying htu, Go.run_underlying hk1, he.run_sizeOf, asInt, asIntOf, typeInfo, hi, hw0]
          have grow0 : ∀ {E : Env} {xv : Value} {news : List Value} {ty : TypeId}, m ≠ 0 → m * ed.bytes ≤ bound → SrcA P zv ed.size ed.bytes U xv m news E.w → (Builtin.append_ #[T, U] ty #[.slice none 0 0, xv]).run P E.w = .ok (.slice (some ⟨E.w.heap.size, 0, none⟩) m (grownCap E.w m 0 e)) (E.w.drew.alloc (.cells (news.toArray ++ Builtin.zeroCells zv.cells (grownCap E.w m 0 e - m)) e)) := by
            intro E xv news ty hm hbd hs
            obtain ⟨hf1, hf2⟩ := hfit m 0 (by omega) hbd
            have hrun := run_append_grow_any (P := P) E.w T U ty e i zv htu hi hi3 (by rw [hi1]; exact hzs) none 0 0 [] (run_firstCells_none _ _ _ _ _) xv m news (by rw [hi1, hi2]; exact hs) (by omega) (by simpa using hf1) (by simpa using hf2)
            simpa only [Nat.zero_add, List.nil_append] using hrun
          have grow0sz : ∀ {E : Env} {xv : Value} {news : List Value}, SrcA P zv ed.size ed.bytes U xv m news E.w → (news.toArray ++ Builtin.zeroCells zv.cells (grownCap E.w m 0 e - m)).size = grownCap E.w m 0 e * ed.size := by
            intro E xv news hs
            have hge := grownCap_ge E.w m 0 e
            simp [Builtin.zeroCells, hs.newsLen hzs, hzs]
            rw [← Nat.add_mul]
            congr 1
            omega
          -- behind an owned slice, or its head: a row that is new
          have onto : ∀ {id N n : Nat} {nl : Bool} {k' : CK} {f : Nat → Nat → PV}, Nat.ble ((n + m) * ed.bytes) bound = true → aget h id = some (.parr false nl k' ed.size N f) → (∀ E sv, E.H id = some (.parr false nl k' ed.size N f) → RC E s sv → OwnV E id nl ed.size N n sv) →
              OpOk P (.call c) t h nx { v := some (.c (.own nx)), rd := id :: r, wr := [(id, .dead)], al := [.parr false (nl && Nat.beq m 0) (joinK k' k m) ed.size (n + m) (catf n f g)] } := by
            intro id N n nl k' f hbd hid hown
            cases nl with
            | true =>
              simp only [Bool.true_and]
              by_cases hm : m = 0
              · subst hm
                intro o ho E a hA K Q hK
                obtain ⟨sv, xv, hav, hsv, hxv⟩ := args E a hA
                obtain ⟨hkk, news, hs, hnew⟩ := hrel E hA.ok (fun id hid => hA.rd id (by simp [hid])) _ hxv
                have hs := hs (by omega)
                have hHid : E.H id = some (.parr false true k' ed.size N f) := (hA.rd id (by simp)).trans hid
                obtain ⟨hnN, ⟨_, h0, rfl⟩ | ⟨h0, _⟩⟩ := hown E sv hHid hsv
                rotate_left
                · cases h0
                obtain rfl : n = 0 := by omega
                have hne : id ≠ nx := fun e => by
                  have := hA.al 0 (by simp)
                  rw [Nat.add_zero, ← e, hHid] at this
                  cases this
                obtain ⟨E1, ok1, ev1, w1, d1, H1⟩ := swap_ex (o' := .dead) hA.ok hHid rfl rfl (by rintro ⟨_, _, e⟩; cases e) fun _ => trivial
                obtain ⟨E2, ok2, ev2, w2, d2, H2⟩ := new_ex (j := nx) ok1 (joinK k' k 0) ed.size (catf 0 f g) (by rw [H1, if_neg (fun e => hne e.symm)]; simpa using hA.al 0 (by simp))
                have hE2 : After E nx { v := some (.c (.own nx)), rd := id :: r, wr := [(id, .dead)], al := [.parr false (Nat.beq 0 0) (joinK k' k 0) ed.size (0 + 0) (catf 0 f g)] } (.slice none 0 0) E2 := by
                  refine After.quiet ok2 (ev1.trans ev2) (w2.trans w1) (d2.trans d1) (fun x => ?_) fun av hav => ?_
                  · rw [updH_eq, H2, H1]
                    by_cases hx : x = nx
                    · rw [if_pos hx, if_pos (by simp; omega), hx]
                      simp
                    · rw [if_neg hx, if_neg (c := nx ≤ x ∧ _) (by simp; omega)]
                      simp [foldH]
                  · injection hav with hav
                    subst hav
                    simp only [RA, RV, RC, H2, if_pos]
                    exact ⟨Nat.le_refl _, .inl ⟨rfl, rfl, rfl⟩⟩
                refine wp_of_run (v := .slice none 0 0) (w' := E2.w) ?_ (hK _ _ hE2)
                rw [call_run hc ho, hats, hav, w2, w1]
                simp only [bi_append, Sem.run_bind, nil0 hs, Result.andThen_ok, Sem.run_pure]
              · have hm0 : Nat.beq m 0 = false := by cases m with | zero => exact absurd rfl hm | succ m => rfl
                rw [hm0]
                intro o ho E a hA K Q hK
                obtain ⟨sv, xv, hav, hsv, hxv⟩ := args E a hA
                obtain ⟨hkk, news, hs, hnew⟩ := hrel E hA.ok (fun id hid => hA.rd id (by simp [hid])) _ hxv
                have hbd' : m * ed.bytes ≤ bound := Nat.le_trans (Nat.mul_le_mul_right _ (by omega)) (Nat.le_of_ble_eq_true hbd)
                have hs := hs (by unfold bound at hbd'; omega)
                have hHid : E.H id = some (.parr false true k' ed.size N f) := (hA.rd id (by simp)).trans hid
                have hE := hA.ok
                obtain ⟨hnN, ⟨_, h0, rfl⟩ | ⟨h0, _⟩⟩ := hown E sv hHid hsv
                rotate_left
                · cases h0
                obtain rfl : n = 0 := by omega
                have hge := grownCap_ge E.w m 0 e
                have hsz := grow0sz hs
                have hml : m * ed.size ≤ grownCap E.w m 0 e * ed.size := Nat.mul_le_mul_right _ hge
                obtain ⟨E', hw', hE'⟩ := After.make (u := { v := some (.c (.own nx)), rd := id :: r, wr := [(id, .dead)], al := [.parr false false (joinK k' k m) ed.size (0 + m) (catf 0 f g)] }) (nx := nx) (v := .slice (some ⟨E.w.heap.size, 0, none⟩) m (grownCap E.w m 0 e))
                  (o := .parr false false (joinK k' k m) ed.size (0 + m) (catf 0 f g)) (cs := news.toArray ++ Builtin.zeroCells zv.cells (grownCap E.w m 0 e - m)) (T := e) (fr := (0, 0))
                  (w' := E.w.drew.alloc (.cells (news.toArray ++ Builtin.zeroCells zv.cells (grownCap E.w m 0 e - m)) e)) hE (by simpa using hA.al 0 (by simp)) rfl
                  (fun q hq => by
                    simp at hq
                    subst hq
                    exact ⟨_, hHid, .dead⟩) rfl rfl rfl (by simp) (fun b hb => by show (E.w.heap.push _)[b]? = _; rw [Array.getElem?_push, if_neg (by omega)]) (by show (E.w.heap.push _)[E.w.heap.size]? = _; rw [Array.getElem?_push, if_pos rfl]) ⟨by simp, fun j _ => by simp⟩
                  (fun E' hev hH hob hnx hb' => by
                    refine ⟨cat_kind (fun j hj => absurd hj (by omega)) hkk, .inr ⟨rfl, _, hb', by rw [hsz, Nat.zero_add]; exact hml, fun j hj c hcc => ?_, fun e => by cases e⟩⟩
                    obtain ⟨y, hy, hr⟩ := cat_get (olds := []) (n := 0) (f := f) (Builtin.zeroCells zv.cells (grownCap E.w m 0 e - m)).toList (by simp) (fun j hj => absurd hj (by omega))
                          (fun j hj c hcc => by obtain ⟨y, hy, hr⟩ := hnew j hj c hcc; exact ⟨y, hy, RP.mono hev.s hev.c hr⟩) j hj c hcc
                    refine ⟨y, ?_, hr⟩
                    rw [← Array.getElem?_toList]
                    simpa using hy)
                  (fun E' hev hH hok hnx hι hb' av hav => by
                    injection hav with hav
                    subst hav
                    simp only [RA, RV, RC, hnx]
                    exact ⟨Nat.le_refl _, .inr ⟨rfl, grownCap E.w m 0 e, _, by rw [hι, Nat.zero_add], by omega, hb', Nat.le_of_eq hsz.symm⟩⟩)
                refine wp_of_run (v := .slice (some ⟨E.w.heap.size, 0, none⟩) m (grownCap E.w m 0 e)) ?_ (hw' ▸ hK _ E' hE')
                rw [call_run hc ho, hats, hav]
                simp only [bi_append, Sem.run_bind, grow0 hm hbd' hs, Result.andThen_ok, Sem.run_pure]
            | false =>
              simp only [Bool.false_and]
              intro o ho E a hA K Q hK
              obtain ⟨sv, xv, hav, hsv, hxv⟩ := args E a hA
              obtain ⟨hkk, news, hs, hnew⟩ := hrel E hA.ok (fun id hid => hA.rd id (by simp [hid])) _ hxv
              have hs := hs (by have := Nat.le_of_ble_eq_true hbd; unfold bound at this; have h9 : m * ed.bytes ≤ (n + m) * ed.bytes := Nat.mul_le_mul_right _ (by omega); omega)
              have hHid : E.H id = some (.parr false false k' ed.size N f) := (hA.rd id (by simp)).trans hid
              have hE := hA.ok
              have hsv := hown E sv hHid hsv
              obtain ⟨hnN, ⟨h0, _⟩ | ⟨_, cap, cs, rfl, hNc, hb, hcap⟩⟩ := hsv
              · cases h0
              have hnc : n ≤ cap := by omega
              obtain ⟨cs2, hb2, hn2', hkk2', hold', _⟩ := (hE.obj id _ hHid).same rfl
              have hkk2 : RowK k' n f := fun j hj c => hkk2' j (by omega) c
              have hn2 : n * ed.size ≤ cs2.size := Nat.le_trans (Nat.mul_le_mul_right _ hnN) hn2'
              have hold := fun j (hj : j < n) => hold' j (by omega)
              obtain rfl := Env.blk_unique hb hb2
              have hnl := hs.newsLen hzs
              by_cases hroom : n + m ≤ cap
              · -- there is room
                have hin : n * ed.size + news.length ≤ cs.size := by
                  rw [hnl, ← Nat.add_mul]
                  exact Nat.le_trans (Nat.mul_le_mul_right _ hroom) hcap
                obtain ⟨cs', T', fr, h1, h2, h3, h4⟩ := blk_set hb hin
                have hbc := hb
                obtain ⟨T0, fr0, hb0, hf0⟩ := hbc
                have hrun := run_append_room_any (P := P) E.w T U o.type e i zv htu hi hi3 hz1 (by rw [hi1]; exact hzs) (E.ι id) 0 n cap xv m news (by rw [hi1, hi2]; exact hs) hroom
                  (fun j hj => by
                    rw [hi1]
                    have : 0 + n * ed.size + j < cs.size := by omega
                    simp only [World.cell?, hb0]
                    simp only [Nat.zero_add] at this
                    simp [this])
                  (fun j hj => by
                    rw [hi1]
                    have := hf0.2 (0 + n * ed.size + j) (by omega)
                    simp only [World.frozen?, hb0]
                    simp
                    omega)
                rw [hi1, Nat.zero_add] at hrun
                obtain ⟨r1, r2, r3, r4⟩ := setCells_rest (E.ι id) news (n * ed.size) E.w
                obtain ⟨E', hw', hE'⟩ := After.write (u := { v := some (.c (.own nx)), rd := id :: r, wr := [(id, .dead)], al := [.parr false false (joinK k' k m) ed.size (n + m) (catf n f g)] }) (v := .slice (some ⟨E.ι id, 0, none⟩) (n + m) cap) (d := id) (nx := nx) (w' := E.w.setCells (E.ι id) (n * ed.size) news) hE hHid rfl hA.al (by simp)
                  (fun q hq => by
                    simp at hq
                    subst hq
                    exact .inr ⟨rfl, rfl, (by rintro ⟨_, _, e⟩; cases e), .inl rfl⟩)
                  (fun _ => by simp [foldH]) r1 r2 r3 r4 (fun b hb => setCells_other _ _ _ _ _ hb) h1 h2 (fun cs0 h0 => by rw [Env.blk_unique h0 hb, h3]) (by simp)
                  (fun E' hev hH hr id' o' hc ho' hbl => by
                    rcases hc with rfl | ⟨_, hc, _⟩
                    · have hne : nx ≠ id' := by
                        intro e
                        have := hA.al 0 (by simp)
                        rw [Nat.add_zero, e, hHid] at this
                        cases this
                      rw [hH, updH_eq, if_neg (by simp; omega)] at ho'
                      simp [foldH] at ho'
                      subst ho'
                      trivial
                    · simp at hc
                      subst hc
                      refine ⟨cat_kind hkk2 hkk, .inr ⟨rfl, cs', hbl, ?_, fun j hj c hcc => ?_, fun e => by cases e⟩⟩
                      · rw [h3, Nat.add_mul, ← hnl]; exact hin
                      · have htl : (cs.toList.take (n * ed.size)).length = n * ed.size := by simp; omega
                        obtain ⟨y, hy, hr⟩ := cat_get (cs.toList.drop (n * ed.size + news.length)) htl (fun j hj c hcc => by
                          have hlt : j * ed.size + c < n * ed.size := by
                            have : (j + 1) * ed.size ≤ n * ed.size := Nat.mul_le_mul_right _ hj
                            rw [Nat.add_mul] at this
                            omega
                          obtain ⟨y, hy, hr⟩ := hold j hj c hcc
                          exact ⟨y, by rw [List.getElem?_take_of_lt hlt, Array.getElem?_toList]; exact hy, RP.mono hev.s hev.c hr⟩)
                          (fun j hj c hcc => by obtain ⟨y, hy, hr⟩ := hnew j hj c hcc; exact ⟨y, hy, RP.mono hev.s hev.c hr⟩) j hj c hcc
                        exact ⟨y, by rw [← Array.getElem?_toList, h4]; exact hy, hr⟩)
                  (fun E' hev hH hok hn av hav => by
                    injection hav with hav
                    subst hav
                    obtain ⟨hι, hbl⟩ := hn (by simp)
                    have hnx : E'.H nx = some (.parr false false (joinK k' k m) ed.size (n + m) (catf n f g)) := by
                      rw [hH, updH_eq, if_pos (by simp)]
                      simp
                    simp only [RA, RV, RC, hnx]
                    exact ⟨Nat.le_refl _, .inr ⟨rfl, cap, cs', by rw [hι], hroom, hbl, by rw [h3]; exact hcap⟩⟩)
                refine wp_of_run (v := .slice (some ⟨E.ι id, 0, none⟩) (n + m) cap) ?_ (hw' ▸ hK _ E' hE')
                rw [call_run hc ho, hats, hav]
                simp only [bi_append, Sem.run_bind, hrun, Result.andThen_ok, Sem.run_pure]
              · -- there is none
                obtain ⟨hf1, hf2⟩ := hfit (n + m) cap (by omega) (Nat.le_of_ble_eq_true hbd)
                have htl : (cs.toList.take (n * ed.size)).length = n * ed.size := by simp; omega
                have hrun := run_append_grow_any (P := P) E.w T U o.type e i zv htu hi hi3 (by rw [hi1]; exact hzs) (some ⟨E.ι id, 0, none⟩) n cap (cs.toList.take (n * ed.size)) (run_firstCells_some _ _ _ _ _ _ _ (by rw [htl, hi1]) (fun j v hj => by
                    have hlt := (List.getElem?_eq_some_iff.1 hj).1
                    rw [htl] at hlt
                    rw [List.getElem?_take_of_lt hlt, Array.getElem?_toList] at hj
                    rw [add_plain, Nat.zero_add]
                    have := cells_block (E := E) hb j
                    rw [hj] at this
                    simpa using this)) xv m news (by rw [hi1, hi2]; exact hs) (by omega) hf1 hf2
                have hge := grownCap_ge E.w (n + m) cap e
                obtain ⟨E', hw', hE'⟩ := After.make (u := { v := some (.c (.own nx)), rd := id :: r, wr := [(id, .dead)], al := [.parr false false (joinK k' k m) ed.size (n + m) (catf n f g)] }) (nx := nx) (v := .slice (some ⟨E.w.heap.size, 0, none⟩) (n + m) (grownCap E.w (n + m) cap e))
                  (o := .parr false false (joinK k' k m) ed.size (n + m) (catf n f g)) (cs := (cs.toList.take (n * ed.size) ++ news).toArray ++ Builtin.zeroCells zv.cells (grownCap E.w (n + m) cap e - (n + m))) (T := e) (fr := (0, 0))
                  (w' := E.w.drew.alloc (.cells ((cs.toList.take (n * ed.size) ++ news).toArray ++ Builtin.zeroCells zv.cells (grownCap E.w (n + m) cap e - (n + m))) e)) hE (by simpa using hA.al 0 (by simp)) rfl
                  (fun q hq => by
                    simp at hq
                    subst hq
                    exact ⟨_, hHid, .dead⟩) rfl rfl rfl (by simp) (fun b hb => by show (E.w.heap.push _)[b]? = _; rw [Array.getElem?_push, if_neg (by omega)]) (by show (E.w.heap.push _)[E.w.heap.size]? = _; rw [Array.getElem?_push, if_pos rfl]) ⟨by simp, fun j _ => by simp⟩
                  (fun E' hev hH hob hnx hb' => by
                    refine ⟨cat_kind hkk2 hkk, .inr ⟨rfl, _, hb', ?_, fun j hj c hcc => ?_, fun e => by cases e⟩⟩
                    · simp [hnl]
                      rw [Nat.add_mul]
                      omega
                    · obtain ⟨y, hy, hr⟩ := cat_get (Builtin.zeroCells zv.cells (grownCap E.w (n + m) cap e - (n + m))).toList htl (fun j hj c hcc => by
                          have hlt : j * ed.size + c < n * ed.size := by
                            have : (j + 1) * ed.size ≤ n * ed.size := Nat.mul_le_mul_right _ hj
                            rw [Nat.add_mul] at this
                            omega
                          obtain ⟨y, hy, hr⟩ := hold j hj c hcc
                          exact ⟨y, by rw [List.getElem?_take_of_lt hlt, Array.getElem?_toList]; exact hy, RP.mono hev.s hev.c hr⟩)
                          (fun j hj c hcc => by obtain ⟨y, hy, hr⟩ := hnew j hj c hcc; exact ⟨y, hy, RP.mono hev.s hev.c hr⟩) j hj c hcc
                      refine ⟨y, ?_, hr⟩
                      rw [← Array.getElem?_toList]
                      simpa using hy)
                  (fun E' hev hH hok hnx hι hb' av hav => by
                    injection hav with hav
                    subst hav
                    simp only [RA, RV, RC, hnx]
                    refine ⟨Nat.le_refl _, .inr ⟨rfl, _, _, by rw [hι], hge, hb', ?_⟩⟩
                    simp [Builtin.zeroCells, hnl, hzs]
                    rw [Nat.min_eq_left (by omega), ← Nat.add_mul, ← Nat.add_mul]
                    exact Nat.mul_le_mul_right _ (by omega))
                refine wp_of_run (v := .slice (some ⟨E.w.heap.size, 0, none⟩) (n + m) (grownCap E.w (n + m) cap e)) ?_ (hw' ▸ hK _ E' hE')
                rw [call_run hc ho, hats, hav]
                simp only [bi_append, Sem.run_bind, hrun, Result.andThen_ok, Sem.run_pure]
          -- in place
          have inpl : ∀ {id N n : Nat} {nl : Bool} {k' : CK} {f : Nat → Nat → PV}, n + m ≤ N → Nat.ble ((n + m) * ed.bytes) bound = true → aget h id = some (.parr false nl k' ed.size N f) → (∀ E sv, E.H id = some (.parr false nl k' ed.size N f) → RC E s sv → OwnV E id nl ed.size N n sv) →
              OpOk P (.call c) t h nx { v := some (.c (.pre id (n + m))), rd := id :: r, wr := [(id, .parr false nl (joinK k' k m) ed.size N (putf n m f g))] } := by
            intro id N n nl k' f hnm hbd hid hown
            cases nl with
            | true =>
              intro o ho E a hA K Q hK
              obtain ⟨sv, xv, hav, hsv, hxv⟩ := args E a hA
              obtain ⟨hkk, news, hs, hnew⟩ := hrel E hA.ok (fun id hid => hA.rd id (by simp [hid])) _ hxv
              have hHid : E.H id = some (.parr false true k' ed.size N f) := (hA.rd id (by simp)).trans hid
              obtain ⟨hnN, ⟨_, h0, rfl⟩ | ⟨h0, _⟩⟩ := hown E sv hHid hsv
              rotate_left
              · cases h0
              subst h0
              obtain rfl : n = 0 := by omega
              obtain rfl : m = 0 := by omega
              have hs := hs (by omega)
              obtain ⟨E2, ok2, ev2, w2, d2, H2⟩ := swap_ex (o' := .parr false true (joinK k' k 0) ed.size 0 (putf 0 0 f g)) hA.ok hHid rfl (by simp [shape]) (by rintro ⟨_, _, e⟩; cases e) fun _ => ⟨fun j hj => absurd hj (by omega), .inl ⟨rfl, rfl⟩⟩
              have hE2 : After E nx { v := some (.c (.pre id (0 + 0))), rd := id :: r, wr := [(id, .parr false true (joinK k' k 0) ed.size 0 (putf 0 0 f g))] } (.slice none 0 0) E2 := by
                refine After.quiet ok2 ev2 w2 d2 (fun x => ?_) fun av hav => ?_
                · rw [updH_eq, if_neg (by simp), H2]
                  simp [foldH]
                · injection hav with hav
                  subst hav
                  simp only [RA, RV, RC, H2, if_pos]
                  exact ⟨Nat.le_refl _, .inl ⟨rfl, rfl, rfl⟩⟩
              refine wp_of_run (v := .slice none 0 0) (w' := E2.w) ?_ (hK _ _ hE2)
              rw [call_run hc ho, hats, hav, w2]
              simp only [bi_append, Sem.run_bind, nil0 hs, Result.andThen_ok, Sem.run_pure]
            | false =>
              intro o ho E a hA K Q hK
              obtain ⟨sv, xv, hav, hsv, hxv⟩ := args E a hA
              obtain ⟨hkk, news, hs, hnew⟩ := hrel E hA.ok (fun id hid => hA.rd id (by simp [hid])) _ hxv
              have hHid : E.H id = some (.parr false false k' ed.size N f) := (hA.rd id (by simp)).trans hid
              have hE := hA.ok
              obtain ⟨hnN, ⟨h0, _⟩ | ⟨_, cap, cs, rfl, hNc, hb, hcap⟩⟩ := hown E sv hHid hsv
              · cases h0
              obtain ⟨cs2, hb2, hn2', hkk2, hold, _⟩ := (hE.obj id _ hHid).same rfl
              obtain rfl := Env.blk_unique hb hb2
              have hroom : n + m ≤ cap := by omega
              have hs := hs (by have := Nat.le_of_ble_eq_true hbd; unfold bound at this; have h9 : m * ed.bytes ≤ (n + m) * ed.bytes := Nat.mul_le_mul_right _ (by omega); omega)
              have hnl := hs.newsLen hzs
              have hin : n * ed.size + news.length ≤ cs.size := by
                rw [hnl, ← Nat.add_mul]
                exact Nat.le_trans (Nat.mul_le_mul_right _ hroom) hcap
              obtain ⟨cs', T', fr, h1, h2, h3, h4⟩ := blk_set hb hin
              have hbc := hb
              obtain ⟨T0, fr0, hb0, hf0⟩ := hbc
              have hrun := run_append_room_any (P := P) E.w T U o.type e i zv htu hi hi3 hz1 (by rw [hi1]; exact hzs) (E.ι id) 0 n cap xv m news (by rw [hi1, hi2]; exact hs) hroom
                (fun j hj => by
                  rw [hi1]
                  have : 0 + n * ed.size + j < cs.size := by omega
                  simp only [World.cell?, hb0]
                  simp only [Nat.zero_add] at this
                  simp [this])
                (fun j hj => by
                  rw [hi1]
                  have := hf0.2 (0 + n * ed.size + j) (by omega)
                  simp only [World.frozen?, hb0]
                  simp
                  omega)
              rw [hi1, Nat.zero_add] at hrun
              obtain ⟨r1, r2, r3, r4⟩ := setCells_rest (E.ι id) news (n * ed.size) E.w
              obtain ⟨E', hw', hE'⟩ := After.write (u := { v := some (.c (.pre id (n + m))), rd := id :: r, wr := [(id, .parr false false (joinK k' k m) ed.size N (putf n m f g))] }) (v := .slice (some ⟨E.ι id, 0, none⟩) (n + m) cap) (d := id) (nx := nx) (w' := E.w.setCells (E.ι id) (n * ed.size) news) hE hHid rfl (by simp) (by simp)
                (fun q hq => by
                  simp at hq
                  subst hq
                  exact .inr ⟨rfl, by simp [shape], (by rintro ⟨_, _, e⟩; cases e), .inr rfl⟩)
                (fun hne => absurd rfl hne) r1 r2 r3 r4 (fun b hb => setCells_other _ _ _ _ _ hb) h1 h2 (fun cs0 h0 => by rw [Env.blk_unique h0 hb, h3]) (by simp)
                (fun E' hev hH hr id' o' hc ho' hbl => by
                  rcases hc with rfl | ⟨_, hc, _⟩
                  · rw [hH, updH_eq, if_neg (by simp)] at ho'
                    simp [foldH] at ho'
                    subst ho'
                    refine ⟨put_kind hkk2 hkk, .inr ⟨rfl, cs', hbl, by rw [h3]; omega, fun j hj c hcc => ?_, fun e => by cases e⟩⟩
                    rw [getElem?_set h4 hin]
                    exact put_get hnl (fun c hcc => by obtain ⟨y, hy, hr⟩ := hold j hj c hcc; exact ⟨y, hy, RP.mono hev.s hev.c hr⟩) (fun j hj c hcc => by obtain ⟨y, hy, hr⟩ := hnew j hj c hcc; exact ⟨y, hy, RP.mono hev.s hev.c hr⟩) c hcc
                  · cases hc)
                (fun E' hev hH hok hn av hav => by
                  injection hav with hav
                  subst hav
                  have hid' : E'.H id = some (.parr false false (joinK k' k m) ed.size N (putf n m f g)) := by
                    rw [hH, updH_eq, if_neg (by simp)]
                    simp [foldH]
                  simp only [RA, RV, RC, hid']
                  obtain ⟨cs1, hb1, e1⟩ := hev.z id _ _ cs hHid hid' rfl hb
                  exact ⟨hnm, .inr ⟨rfl, cap, cs1, by rw [hev.i id _ hHid], hNc, hb1, by omega⟩⟩)
              refine wp_of_run (v := .slice (some ⟨E.ι id, 0, none⟩) (n + m) cap) ?_ (hw' ▸ hK _ E' hE')
              rw [call_run hc ho, hats, hav]
              simp only [bi_append, Sem.run_bind, hrun, Result.andThen_ok, Sem.run_pure]
          split at hu
          · -- the nil slice
            obtain ⟨hbd, hu⟩ := test_get hu rfl
            simp only [Stp.get, Option.some.injEq] at hu
            subst hu
            by_cases hm : m = 0
            · subst hm
              intro o ho E a hA K Q hK
              obtain ⟨sv, xv, hav, ⟨rfl, _⟩, hxv⟩ := args E a hA
              obtain ⟨hkk, news, hs, hnew⟩ := hrel E hA.ok hA.rd _ hxv
              have hs := hs (by omega)
              obtain ⟨E2, ok2, ev2, w2, d2, H2⟩ := new_ex (j := nx) hA.ok k ed.size g (by simpa using hA.al 0 (by simp))
              have hE2 : After E nx { v := some (.c (.own nx)), rd := r, al := [.parr false (Nat.beq 0 0) k ed.size 0 g] } (.slice none 0 0) E2 := by
                refine After.quiet ok2 ev2 w2 d2 (fun x => ?_) fun av hav => ?_
                · rw [updH_eq, H2]
                  by_cases hx : x = nx
                  · rw [if_pos hx, if_pos (by simp; omega), hx]
                    simp
                  · rw [if_neg hx, if_neg (by simp; omega)]
                    simp [foldH]
                · injection hav with hav
                  subst hav
                  simp only [RA, RV, RC, H2, if_pos]
                  exact ⟨Nat.le_refl _, .inl ⟨rfl, rfl, rfl⟩⟩
              refine wp_of_run (v := .slice none 0 0) (w' := E2.w) ?_ (hK _ _ hE2)
              rw [call_run hc ho, hats, hav, w2]
              simp only [bi_append, Sem.run_bind, nil0 hs, Result.andThen_ok, Sem.run_pure]
            · have hm0 : Nat.beq m 0 = false := by cases m with | zero => exact absurd rfl hm | succ m => rfl
              rw [hm0]
              refine opOk_new FW.nil fun o ho E a hA => ?_
              obtain ⟨sv, xv, hav, ⟨rfl, _⟩, hxv⟩ := args E a hA
              obtain ⟨hkk, news, hs, hnew⟩ := hrel E hA.ok hA.rd _ hxv
              have hs := hs (by have := Nat.le_of_ble_eq_true hbd; unfold bound at this; omega)
              have hge := grownCap_ge E.w m 0 e
              refine ⟨.slice (some ⟨E.w.heap.size, 0, none⟩) m (grownCap E.w m 0 e), news.toArray ++ Builtin.zeroCells zv.cells (grownCap E.w m 0 e - m), e, E.w.drew.alloc (.cells (news.toArray ++ Builtin.zeroCells zv.cells (grownCap E.w m 0 e - m)) e), ?_, ⟨rfl, rfl, rfl, rfl⟩, fun E' hev hH hob hnx hb => ?_⟩
              · rw [call_run hc ho, hats, hav]
                simp only [bi_append, Sem.run_bind, grow0 hm (Nat.le_of_ble_eq_true hbd) hs, Result.andThen_ok, Sem.run_pure]
              · have hsz := grow0sz hs
                have hml : m * ed.size ≤ grownCap E.w m 0 e * ed.size := Nat.mul_le_mul_right _ hge
                refine ⟨⟨hkk, .inr ⟨rfl, _, hb, by omega, fun j hj c hcc => ?_, fun e => by cases e⟩⟩, fun hok hι => ?_⟩
                · obtain ⟨y, hy, hr⟩ := hnew j hj c hcc
                  have hlt := (List.getElem?_eq_some_iff.1 hy).1
                  refine ⟨y, ?_, RP.mono hev.s hev.c hr⟩
                  rw [Array.getElem?_append_left (by simpa using hlt)]
                  simpa using hy
                · simp only [RA, RV, RC, hnx]
                  exact ⟨Nat.le_refl _, .inr ⟨rfl, _, _, by rw [hι], hge, hb, by omega⟩⟩
          · rename_i id
            split at hu
            · rename_i nl k' s' n f hid
              cases hse : Nat.beq s' ed.size with
              | false => simp only [hse, cond_false, Stp.get] at hu; cases hu
              | true =>
                obtain rfl := Nat.eq_of_beq_eq_true hse
                simp only [hse, cond_true] at hu
                obtain ⟨hbd, hu⟩ := test_get hu rfl
                simp only [Stp.get, Option.some.injEq] at hu
                subst hu
                exact onto hbd hid fun E sv hH hr => by simpa only [RC, hH] using hr
            · simp only [Stp.get] at hu; cases hu
          · rename_i id n
            split at hu
            · rename_i nl k' s' N f hid
              cases hse : Nat.beq s' ed.size with
              | false => simp only [hse, cond_false, Stp.get] at hu; cases hu
              | true =>
                obtain rfl := Nat.eq_of_beq_eq_true hse
                simp only [hse, cond_true] at hu
                cases hin : (Nat.ble (n + m) N && Nat.ble ((n + m) * ed.bytes) bound) with
                | false =>
                  simp only [hin, Stp.get, cond_false] at hu
                  obtain ⟨hbd, hu⟩ := cond_some hu
                  rw [Bool.and_eq_true] at hbd
                  injection hu with hu
                  subst hu
                  exact onto hbd.2 hid fun E sv hH hr => by simpa only [RC, hH] using hr
                | true =>
                  simp only [hin, Stp.get, cond_true, Option.some.injEq] at hu
                  subst hu
                  rw [Bool.and_eq_true] at hin
                  exact inpl (Nat.le_of_ble_eq_true hin.1) hin.2 hid fun E sv hH hr => by simpa only [RC, hH] using hr
            · simp only [Stp.get] at hu; cases hu
          · simp only [Stp.get] at hu; cases hu
      split at hu
      · rename_i kk _ l hud'
        obtain ⟨hl, hu⟩ := test_get hu rfl
        simp only [Bool.and_eq_true, decide_eq_true_eq] at hl
        refine core _ _ _ _ (fun E hE hrd v hv => ?_) hu
        obtain ⟨rfl, _⟩ := hv
        refine ⟨fun j hj q => ?_, (Builtin.zeroCells zv.cells l.toNat).toList, fun hfit => .inr ⟨⟨_, und_int (hT U ud hud) hud'⟩, ⟨_, by rw [Int.toNat_of_nonneg hl.1]⟩, by omega, hfit, by simp⟩, fun j hj q hq => ?_⟩
        · by_cases hq : q < ed.size
          · have hlt : q < ed.zero.length := by rw [he.len]; exact hq
            refine kindsOf_ok (i := q) ?_ fun _ => (Nat.mod_eq_of_lt hq).symm
            simp [List.getElem?_map, hlt, List.getD]
          · exact kindsOf_out (by omega) _
        · have hlt : j * ed.size + q < l.toNat * ed.size := by
            have : (j + 1) * ed.size ≤ l.toNat * ed.size := Nat.mul_le_mul_right _ hj
            rw [Nat.add_mul] at this
            omega
          have hg := zeroCells_get zv.cells l.toNat (j * ed.size + q) (by rw [hzs]; exact hlt)
          rw [hzs, Nat.mul_comm j, Nat.mul_add_mod, Nat.mod_eq_of_lt hq, Nat.mul_comm] at hg
          have hlz : q < ed.zero.length := by rw [he.len]; exact hq
          have hq2 : zv.cells[q]? = some (ed.zero.getD q undef) := by
            rw [← Array.getElem?_toList, hi4, List.getElem?_eq_getElem hlz]
            simp [List.getD, hlz]
          refine ⟨ed.zero.getD q undef, ?_, rfl, ?_⟩
          · rw [Array.getElem?_toList, hg, hq2]
          · simp only [List.getD, List.getElem?_eq_getElem hlz, Option.getD_some]
            exact he.one _ (List.getElem_mem _)
      · split at hu
        · rename_i k m g r hsrc
          refine core k m g r (fun E hE hrd v hv => ?_) hu
          obtain ⟨h1, news, h2, h3⟩ := appSrc_rel (hT U ud hud) hsrc hE hrd hv
          exact ⟨h1, news, fun _ => .inl h2, h3⟩
        · simp only [Stp.get] at hu; cases hu
    · simp only [Stp.get] at hu; cases hu
  · simp only [Stp.get] at hu; cases hu

theorem bytes_cell {w : World} {e : TypeId} (s : ByteArray) (j : Nat) (hj : j < s.size) : (Lib.bytesCells w e s)[j]? = some (.int .u8 (bt s (j : Int))) := by
  unfold Lib.bytesCells bt
  have h1 : j < s.data.size := hj
  rw [Array.getElem?_append_left (by simpa using h1)]
  simp [hj]
  rfl
theorem stp_cond' {b : Bool} {s : Stp} {u : Upd} (hu : (bif b then s else Stp.fail).get = some u) : b = true ∧ s.get = some u := by
  cases b with
  | true => exact ⟨rfl, hu⟩
  | false => cases hu
theorem freeze_spec {w : World} {b : Nat} {cs : Array Value} {T : TypeId} {fr : Nat × Nat} (hb : w.heap[b]? = some (.cells cs T fr)) (hf : FrOk cs.size fr) (hx : frx = 0) :
    (w.freeze ⟨b, cs.size, none⟩ 1).os = w.os ∧ (w.freeze ⟨b, cs.size, none⟩ 1).tape = w.tape ∧ (w.freeze ⟨b, cs.size, none⟩ 1).output = w.output ∧ (w.freeze ⟨b, cs.size, none⟩ 1).heap.size = w.heap.size ∧
    (∀ i, i ≠ b → (w.freeze ⟨b, cs.size, none⟩ 1).heap[i]? = w.heap[i]?) ∧ ∃ fr', (w.freeze ⟨b, cs.size, none⟩ 1).heap[b]? = some (.cells cs T fr') ∧ FrOk cs.size fr' := by
  have hlt : b < w.heap.size := (Array.getElem?_eq_some_iff.1 hb).1
  unfold World.freeze
  rw [if_neg (by decide)]
  refine ⟨rfl, rfl, rfl, by simp, fun i hi => ?_, ?_⟩
  · simp only [Array.getElem?_modify]
    rw [if_neg (fun e => hi e.symm)]
  · simp only [Array.getElem?_modify, if_true, hb, Option.map_some]
    obtain ⟨lo, hi⟩ := fr
    refine ⟨_, rfl, ?_⟩
    obtain ⟨h1, h2⟩ := hf
    simp only at h1 h2
    cases hlh : lo == hi with
    | true => simp only [if_true]; exact ⟨by omega, fun j hj => by omega⟩
    | false =>
      have hne : lo ≠ hi := fun e => by subst e; simp at hlh
      have hge : cs.size ≤ lo := by
        rcases Nat.lt_or_ge lo cs.size with h | h
        · exact absurd ⟨Nat.le_refl _, by omega⟩ (h2 lo (Nat.lt_of_lt_of_le h (Nat.le_add_right _ frx)))
        · exact h
      simp only [Bool.false_eq_true, if_false]
      exact ⟨by omega, fun j hj => by omega⟩
theorem ok_convert {tt : Nat → Option TD} (hT : TT P tt) {S T : Nat} {x : Operand} {p : CV} (hx : opnd t x = some (.c p)) (hu : (evConvert tt h nx S T p).get = some u) : OpOk P (.convert S T x) t h nx u := by
  by_cases hal : u.al = []
  · exact ok_convert0 hT hx hal hu
  · unfold evConvert at hu
    split at hu
    · rename_i sd td hsd htd
      have hs := hT S sd hsd
      have ht := hT T td htd
      obtain ⟨ds, hds, _⟩ := hs.und
      split at hu
      · simp only [Stp.get, Option.some.injEq] at hu
        subst hu
        exact absurd rfl hal
      · exfalso
        apply hal
        split at hu
        · split at hu
          · simp only [Stp.get, Option.some.injEq] at hu; subst hu; rfl
          · cases hu
        · split at hu
          · split at hu
            · rename_i k n f r hr
              cases hk : isU8 k with
              | true => simp only [hk, cond_true, Stp.get, Option.some.injEq] at hu; subst hu; rfl
              | false =>
                simp only [hk, cond_false] at hu
                obtain ⟨_, hu⟩ := test_get hu rfl
                simp only [Stp.get, Option.some.injEq] at hu; subst hu; rfl
            · split at hu
              · split at hu
                · rename_i l _
                  cases hk : isU8 (kindsOf 1 (l.map pvOf)) with
                  | true => simp only [hk, cond_true, Stp.get, Option.some.injEq] at hu; subst hu; rfl
                  | false => simp only [hk, cond_false] at hu; cases hu
                · cases hu
              · cases hu
          · cases hu
        · cases hu
      · rename_i e s hk
        split at hu
        · rename_i ed sz by' z phl hed
          have he := hT e _ hed
          have hfx0 : Nat.beq frx 0 = true := by
            cases hf : Nat.beq frx 0 with
            | true => rfl
            | false => rw [hf] at hu; cases hu
          rw [hfx0, cond_true] at hu
          have hfx := Nat.eq_of_beq_eq_true hfx0
          simp only [Stp.get, Option.some.injEq] at hu
          subst hu
          intro o ho E a hA K Q hK
          obtain ⟨hv, _⟩ := opnd_in hA (by simp [Op.operands]) hx
          have hrun := Lib.run_convert_string_bytes (P := P) E.w S T e s hds (und_slc ht hk) (und_int he rfl)
          have hge := grownCap_ge E.w s.size 0 e
          have hsz : (Lib.bytesCells E.w e s).size = grownCap E.w s.size 0 e := by
            unfold Lib.bytesCells
            simp
            have : s.data.size = s.size := rfl
            omega
          obtain ⟨E', hw', hE'⟩ := After.make (u := { v := some (.c (.own nx)), al := [.parr false false (.int .u8 .nil) 1 s.size (fun j _ => .val (.int .u8 (bt s (j : Int))))] }) (nx := nx) (v := .slice (some ⟨E.w.heap.size, 0, none⟩) s.size (grownCap E.w s.size 0 e))
            (w' := Lib.bytesWorld E.w e s) hA.ok (by simpa using hA.al 0 (by simp)) rfl (fun q hq => by simp at hq) rfl rfl rfl (Lib.bytesWorld_size E.w e s) (fun b hb => Lib.bytesWorld_at_old E.w e s b hb) (Lib.bytesWorld_at_new E.w e s) ⟨by simp, fun j hj => by simp; omega⟩
            (fun E' hev hH hob hnx hb => ⟨u8row fun j => _, .inr ⟨rfl, _, hb, by omega, fun j hj c hc => ⟨.int .u8 (bt s (j : Int)), by
              obtain rfl : c = 0 := by omega
              rw [Nat.mul_one, Nat.add_zero]
              exact bytes_cell s j hj, rfl, rfl⟩, fun e => by cases e⟩⟩)
            (fun E' hev hH hok hnx hι hb av hav => by
              injection hav with hav
              subst hav
              simp only [RA, RV, RC, hnx]
              exact ⟨Nat.le_refl _, .inr ⟨rfl, _, _, by rw [hι], hge, hb, by omega⟩⟩)
          refine wp_of_run (v := .slice (some ⟨E.w.heap.size, 0, none⟩) s.size (grownCap E.w s.size 0 e)) ?_ (hw' ▸ hK _ E' hE')
          simp [execOp, ho, hv, hrun]
        · cases hu
      · rename_i e id hk
        split at hu
        · rename_i sz by' z phl hed
          have he := und_int (hT e _ hed) rfl
          have hSX : (Nat.beq S T && Nat.beq frx 0) = true := by
            cases hST : (Nat.beq S T && Nat.beq frx 0) with
            | true => rfl
            | false => rw [hST] at hu; cases hu
          rw [hSX, cond_true] at hu
          have hfrx : frx = 0 := Nat.eq_of_beq_eq_true ((Bool.and_eq_true _ _).mp hSX).2
          obtain rfl := Nat.eq_of_beq_eq_true ((Bool.and_eq_true _ _).mp hSX).1
          split at hu
          · rename_i k e' n f hid
            simp only [Stp.get, Option.some.injEq] at hu
            subst hu
            intro o ho E a hA K Q hK
            have hrc := opnd_in hA (by simp [Op.operands]) hx
            have hHid : E.H id = some (.parr false false k e' n f) := (hA.rd id (by simp)).trans hid
            have hE := hA.ok
            have hrc' : RC E (.own id) (a.eval x) := hrc
            simp only [RC] at hrc'
            rw [hHid] at hrc'
            obtain ⟨_, ⟨h00, _⟩ | ⟨_, cap, cs, hval, hnc, hb, hcap⟩⟩ := hrc'
            · cases h00
            obtain ⟨cs2, hb2, hn2, hkk2, hold, _⟩ := (hE.obj id _ hHid).same rfl
            obtain rfl := Env.blk_unique hb hb2
            have hbc := hb
            obtain ⟨T0, fr0, hb0, hf0⟩ := hbc
            obtain ⟨g1, g2, g3, g4, g5, fr', g6, g7⟩ := freeze_spec hb0 hf0 hfrx
            have hsh : E.w.shape? (E.ι id) = some (T0, cs.size) := by unfold World.shape?; rw [hb0]
            have hrun : (convert S S (.slice (some ⟨E.ι id, 0, none⟩) n cap)).run P E.w = .ok (.slice (some ⟨E.ι id, 0, none⟩) n cap) (E.w.freeze ⟨E.ι id, cs.size, none⟩ 1) := by
              simp [convert, Go.run_underlying (und_slc hs (by rw [hsd] at htd; injection htd with htd; rw [htd]; exact hk)), Go.run_underlying he, markStringish, hsh]
            obtain ⟨E', hw', hE'⟩ := After.write (u := { v := some (.c (.own nx)), rd := [id], wr := [(id, .dead)], al := [.parr false false k e' n f] }) (v := .slice (some ⟨E.ι id, 0, none⟩) n cap) (d := id) (nx := nx) (w' := E.w.freeze ⟨E.ι id, cs.size, none⟩ 1) hE hHid rfl hA.al (by simp)
              (fun q hq => by
                simp at hq
                subst hq
                exact .inr ⟨rfl, rfl, (by rintro ⟨_, _, e⟩; cases e), .inl rfl⟩)
              (fun _ => by simp [foldH]) g1 g2 g3 g4 g5 g6 g7 (fun cs0 h0 => by rw [Env.blk_unique h0 hb]) (by simp)
              (fun E' hev hH hr id' o' hc ho' hbl => by
                rcases hc with rfl | ⟨_, hc, _⟩
                · have hne : nx ≠ id' := by
                    intro e
                    have := hA.al 0 (by simp)
                    rw [Nat.add_zero, e, hHid] at this
                    cases this
                  rw [hH, updH_eq, if_neg (by simp; omega)] at ho'
                  simp [foldH] at ho'
                  subst ho'
                  trivial
                · simp at hc
                  subst hc
                  exact ⟨hkk2, .inr ⟨rfl, cs, hbl, hn2, fun j hj c hcc => by obtain ⟨y, hy, hr⟩ := hold j hj c hcc; exact ⟨y, hy, RP.mono hev.s hev.c hr⟩, fun e => by cases e⟩⟩)
              (fun E' hev hH hok hn av hav => by
                injection hav with hav
                subst hav
                obtain ⟨hι, hbl⟩ := hn (by simp)
                have hnx : E'.H nx = some (.parr false false k e' n f) := by
                  rw [hH, updH_eq, if_pos (by simp)]
                  simp
                simp only [RA, RV, RC, hnx]
                exact ⟨Nat.le_refl _, .inr ⟨rfl, cap, cs, by rw [hι], hnc, hbl, hcap⟩⟩)
            refine wp_of_run (v := .slice (some ⟨E.ι id, 0, none⟩) n cap) ?_ (hw' ▸ hK _ E' hE')
            simp [execOp, ho, hval, hrun]
          · cases hu
        · cases hu
      · cases hu
    · cases hu
end
end Go.Ve
