/- strings.Join, strings.genSplit at one byte, strings.IndexByte, strconv.Itoa, words.Num, as the evaluator's summaries, out of the contracts laid for this translation. -/
import Derived.Test.YtijabmpcicddbaaDoorSeat
import Derived.Test.YtijabmpcicddbaaDoorShelf
import Derived.Test.YtijabmpcicddbaaDoorVe34
import Derived.Test.YtijabmpcicddbaaDoorRows
import Derived.Shelf.Strings.SplitCore
import Derived.Lib.AtoiOr
set_option linter.unusedVariables false
namespace Go.Proofs.YtijabmpcicddbaaDoor
open Go.Ve Go.Lib Go.RowKit
theorem join_ok : SumOk Tryd.prog 33 joinSm := join_sum ⟨_, Tryd.func33, by kernel_rfl, by kernel_rfl⟩ Tryd.strings_Join_none Tryd.strings_Join
theorem idx_ok : SumOk Tryd.prog 94 idxSm := idx_sum ⟨_, Tryd.func94, by kernel_rfl, by kernel_rfl⟩ Tryd.strings_IndexByte
theorem indexB_1 (x : ByteArray) (c : UInt8) : Lib.indexB x ⟨#[c]⟩ = Lib.indexByte x.data.toList c := Lib.index_one x.data.toList c
theorem countB_1 (x : ByteArray) (c : UInt8) : Lib.countB x ⟨#[c]⟩ = Lib.countByte x.data.toList c := Lib.count_one c x.data.toList
theorem split_one (s : ByteArray) (c : UInt8) (w : World) (hs : s.size < 4294967281) : Calls Tryd.prog 52 #[.string s, .string ⟨#[c]⟩, .int .i64 0, .int .i64 (-1)] w fun e w' =>
    e = .returned (.slice (some ⟨w.heap.size, 0, none⟩) (Lib.countB s ⟨#[c]⟩ + 1) (Lib.countB s ⟨#[c]⟩ + 1)) ∧ w' = w.alloc (.cells ((Lib.splitB ⟨#[c]⟩ 0 (Lib.countB s ⟨#[c]⟩) s).map Value.string).toArray 9) := by
  have h1 : 1 ≤ (⟨#[c]⟩ : ByteArray).size := Nat.le_refl 1
  have hle := Lib.countB_le ⟨#[c]⟩ h1 s.size s (Nat.le_refl _)
  have hlen := Lib.splitB_all ⟨#[c]⟩ h1 0 _ s rfl
  have key := Any.strings_genSplit_core Tryd.lays221 (by kernel_rfl) s ⟨#[c]⟩ 0 (-1) (Lib.countB s ⟨#[c]⟩ + 1) w hs h1 (Nat.zero_le _)
    (fun x cs _ => Calls.mono (Tryd.strings_Index_one x c _) fun e w' ⟨he, hw⟩ => ⟨by rw [he, indexB_1], hw⟩)
    (Calls.mono (Tryd.strings_Count_one s c w) fun e w' ⟨he, hw⟩ => ⟨by rw [he, countB_1], hw⟩)
    (by decide) (by decide) (by rw [if_pos (by decide)]; omega)
  rw [Nat.add_sub_cancel, hlen] at key
  refine Calls.mono key fun e w' ⟨he, hw⟩ => ⟨he, ?_⟩
  rw [hw]
  congr 2
  rw [← hlen]
  exact Lib.cellsOf_full _
theorem split_ok : SumOk Tryd.prog 52 splitSm := split_sum ⟨_, Tryd.func52, by kernel_rfl, by kernel_rfl⟩ split_one
theorem g_pow : Tryd.prog.globalNamed "internal/strconv.uint64pow10" = some 3 := by kernel_rfl
theorem g_syn : Tryd.prog.globalNamed "strconv.ErrSyntax" = some 0 := by kernel_rfl
theorem g_ran : Tryd.prog.globalNamed "strconv.ErrRange" = some 1 := by kernel_rfl
theorem pow_of {w : World} (h : TabsAt w) : Lib.TabIs Tryd.prog w "internal/strconv.uint64pow10" .u64 Lib.pow10Tab := by
  obtain ⟨cs, T, fr, hh, hp⟩ := h 3 _ (.tail _ (.tail _ (.head _)))
  unfold Lib.TabIs World.var?
  rw [g_pow]
  simp only [Option.bind_some, hh]
  rw [hp]
theorem iface_of {w : World} {b : Nat} (h : TabsAt w) (hb : (b, ifaceCs) ∈ tabs) : ∃ ev, w.cell? ⟨b, 0, none⟩ = some ev ∧ (ev = .nilIface ∨ ∃ te pe, ev = .iface te pe) := by
  obtain ⟨cs, T, fr, hh, ev, rfl, hp⟩ := h b _ hb
  exact ⟨ev, by simp [World.cell?, hh], hp⟩
theorem itoa_at (n : Int) (w : World) (hw : TabsAt w) (h0 : -9223372036854775808 ≤ n) (h1 : n ≤ 9223372036854775807) :
    Calls Tryd.prog 34 #[.int .i64 n] w fun e w' => e = .returned (.string ⟨(Lib.itoa n).toArray⟩) ∧ Below w.heap.size w w' :=
  Calls.mono (Tryd.strconv_Itoa n h0 h1 w (pow_of hw)) fun e w' ⟨he, k, os, hw⟩ => ⟨he, by
    subst hw
    exact ⟨rfl, rfl, rfl, by simp [«Sort».grow, World.drewN], fun b hb => by simp only [«Sort».grow, World.drewN]; rw [Array.getElem?_append_left hb]⟩⟩
theorem itoa_ok : SumOk Tryd.prog 34 itoaSm := itoa_sum ⟨_, Tryd.func34, by kernel_rfl, by kernel_rfl⟩ itoa_at
theorem text_at (n : Int) (w : World) (hw : TabsAt w) (h0 : -9223372036854775808 ≤ n) (h1 : n ≤ 9223372036854775807) :
    Calls Tryd.prog 20 #[.int .i64 n] w fun e w' => e = .returned (.string ⟨(Lib.itoa n).toArray⟩) ∧ Below w.heap.size w w' := by
  have cI := itoa_at n w hw h0 h1
  go_enter Tryd.func20, Tryd.ntmps20
  go_wp2_with (go_at_call 34; refine cI.mono ?_; rintro e w' ⟨rfl, hb⟩)
  go_ret
  exact ⟨rfl, hb⟩
theorem tabs_below {w w' : World} (h : TabsAt w) (hb : Below w.heap.size w w') : TabsAt w' := fun b p hm => by
  obtain ⟨cs, T, fr, hh, hp⟩ := h b p hm
  exact ⟨cs, T, fr, (hb.block b (Array.getElem?_eq_some_iff.1 hh).1).trans hh, hp⟩
theorem atoi_range {l : List UInt8} {v : Int} (h : Lib.atoiAll l = .ok v) : -9223372036854775808 ≤ v ∧ v ≤ 9223372036854775807 := by
  unfold Lib.atoiAll at h
  split at h
  · cases h
  · simp only at h
    split at h
    · cases h
    · cases h
    · split at h
      · cases h
      · split at h
        · cases h
        · injection h with h
          split at h <;> omega
theorem num_err (s : ByteArray) (w : World) (h : Calls Tryd.prog 31 #[.string s] w fun e w' => ∃ n t N, e = .returned (.tuple #[.int .i64 n, .iface t (.pointer (some N))]) ∧ Below w.heap.size w w') :
    Calls Tryd.prog 13 #[.string s] w fun e w' => e = .returned (.tuple #[.int .i64 0, .bool false]) ∧ Below w.heap.size w w' := by
  go_enter Tryd.func13, Tryd.ntmps13
  go_wp2_with (go_at_call 31; refine h.mono ?_; rintro e w' ⟨n, t, N, rfl, hb⟩)
  exact bodyPost_ret (v := .tuple #[.int .i64 0, .bool false]) (by simp [results, Tryd.results13, go_sem]) rfl ⟨rfl, hb⟩
theorem num_neg (s : ByteArray) (w : World) (v : Int) (hv : v < 0 ∨ v > 4294967295) (h : Calls Tryd.prog 31 #[.string s] w fun e w' => e = .returned (.tuple #[.int .i64 v, .nilIface]) ∧ Below w.heap.size w w') :
    Calls Tryd.prog 13 #[.string s] w fun e w' => e = .returned (.tuple #[.int .i64 0, .bool false]) ∧ Below w.heap.size w w' := by
  go_enter Tryd.func13, Tryd.ntmps13
  go_wp2_with (go_at_call 31; refine h.mono ?_; rintro e w' ⟨rfl, hb⟩)
  all_goals exact bodyPost_ret (v := .tuple #[.int .i64 0, .bool false]) (by simp [results, Tryd.results13, go_sem]) rfl ⟨rfl, hb⟩
theorem num_fit (s : ByteArray) (w : World) (hw : TabsAt w) (v : Int) (h0 : 0 ≤ v) (h1 : v ≤ 4294967295) (b : Bool) (hb : b = true ↔ (⟨(Lib.itoa v).toArray⟩ : ByteArray) = s) (h : Calls Tryd.prog 31 #[.string s] w fun e w' => e = .returned (.tuple #[.int .i64 v, .nilIface]) ∧ Below w.heap.size w w') :
    Calls Tryd.prog 13 #[.string s] w fun e w' => e = .returned (bif b then .tuple #[.int .i64 v, .bool true] else .tuple #[.int .i64 0, .bool false]) ∧ Below w.heap.size w w' := by
  go_enter Tryd.func13, Tryd.ntmps13
  go_wp2_with (first | (go_at_call 31; refine h.mono ?_; rintro e w' ⟨rfl, hb1⟩; have hw1 := tabs_below hw hb1) | (go_at_call 20; refine (text_at v _ hw1 (by omega) (by omega)).mono ?_; rintro e w'' ⟨rfl, hb2⟩))
  all_goals
    rename_i hc
    have hm : (Lib.itoa v == s.toList) = b := by
      have := ble_eq ⟨(Lib.itoa v).toArray⟩ s
      rw [show (⟨(Lib.itoa v).toArray⟩ : ByteArray).toList = Lib.itoa v by simp] at this
      cases b with
      | true => exact this.2 (hb.1 rfl)
      | false =>
        cases h : (Lib.itoa v == s.toList) with
        | false => rfl
        | true => exact absurd (hb.2 (this.1 h)) (by simp)
    rw [hm] at hc
  · have hbf : b = false := by
      rcases hc with hc | hc
      · omega
      · simpa using hc
    subst hbf
    exact bodyPost_ret (v := .tuple #[.int .i64 0, .bool false]) (by simp [results, Tryd.results13, go_sem]) rfl ⟨rfl, hb1.trans (hb2.mono hb1.size)⟩
  · have hbt : b = true := by
      cases b with
      | true => rfl
      | false => exact absurd hc.2 (by simp)
    subst hbt
    exact bodyPost_ret (v := .tuple #[.int .i64 v, .bool true]) (by simp [results, Tryd.results13, go_sem]) rfl ⟨rfl, hb1.trans (hb2.mono hb1.size)⟩
theorem num_at (s : ByteArray) (w : World) (hw : TabsAt w) (hs : s.size ≤ 281474976710656) :
    Calls Tryd.prog 13 #[.string s] w fun e w' => e = .returned (bif numOk s then .tuple #[.int .i64 (numV s : Nat), .bool true] else .tuple #[.int .i64 0, .bool false]) ∧ Below w.heap.size w w' := by
  have no : ∀ {e : Lib.NumEnd Int}, Lib.atoiAll s.data.toList = e → (∀ v, e ≠ .ok v) → numOk s = false := by
    intro e he hne
    cases hb : numOk s with
    | false => rfl
    | true =>
      obtain ⟨u, hu, hd⟩ := numOk_spec.1 hb
      rw [hd, atoi_dec (by omega)] at he
      exact absurd he.symm (hne _)
  cases ha : Lib.atoiAll s.data.toList with
  | ok v =>
    obtain ⟨v0, v1⟩ := atoi_range ha
    have cA : Calls Tryd.prog 31 #[.string s] w fun e w' => e = .returned (.tuple #[.int .i64 v, .nilIface]) ∧ Below w.heap.size w w' := by
      refine Calls.mono (Tryd.strconv_Atoi_ok s (by omega) v ha w) fun e w' ⟨he, hw⟩ => ⟨he, ?_⟩
      rcases hw with rfl | ⟨t, rfl⟩
      · exact Below.refl _ _
      · exact Lib.bytesWorld_below _ _ _
    by_cases h1 : v < 0 ∨ v > 4294967295
    · have hf : numOk s = false := by
        cases hb : numOk s with
        | false => rfl
        | true =>
          obtain ⟨u, hu, hd⟩ := numOk_spec.1 hb
          rw [hd, atoi_dec (by omega)] at ha
          injection ha with ha
          omega
      rw [hf, cond_false]
      exact num_neg s w v h1 cA
    · have h0 : 0 ≤ v := by omega
      have h2 : v ≤ 4294967295 := by omega
      have hit : Lib.itoa v = Lib.decDigits v.toNat := by
        unfold Lib.itoa
        rw [if_neg (by omega)]
      have key := num_fit s w hw v h0 h2 (numOk s) ⟨fun h => ?_, fun h => ?_⟩ cA
      · refine Calls.mono key fun e w' ⟨he, hw⟩ => ⟨?_, hw⟩
        cases hb : numOk s with
        | false => rw [he, hb]; rfl
        | true =>
          obtain ⟨u, hu, hd⟩ := numOk_spec.1 hb
          rw [he, hb, cond_true, cond_true, numV_spec hd]
          rw [hd, atoi_dec (by omega)] at ha
          injection ha with ha
          rw [ha]
      · obtain ⟨u, hu, hd⟩ := numOk_spec.1 h
        have ha' := ha
        rw [hd, atoi_dec (by omega)] at ha'
        injection ha' with ha'
        rw [hit, ← ha', show ((u : Int)).toNat = u by omega, ← hd]
      · refine numOk_spec.2 ⟨v.toNat, by omega, ?_⟩
        rw [← h, ← hit]
  | range =>
    rw [no ha (fun v h => by cases h), cond_false]
    obtain ⟨ev, e1, e2⟩ := iface_of (b := 1) hw (.tail _ (.head _))
    exact num_err s w (Calls.mono (Tryd.strconv_Atoi_range s hs ha ev w e1 e2) fun e w' ⟨N, he, _, _, hb⟩ => ⟨_, _, _, he, hb⟩)
  | _ =>
    rw [no ha (fun v h => by cases h), cond_false]
    obtain ⟨ev, e1, e2⟩ := iface_of (b := 0) hw (.head _)
    exact num_err s w (Calls.mono (Any.strconv_Atoi_syntax Tryd.laysC172 s hs ha ev w e1 e2) fun e w' ⟨N, he, _, _, hb⟩ => ⟨_, _, _, he, hb⟩)
theorem num_ok : SumOk Tryd.prog 13 numSm := num_sum ⟨_, Tryd.func13, by kernel_rfl, by kernel_rfl⟩ num_at
theorem ty_pow : (Tryd.prog.globals[3]?).map (·.type) = some 172 := by kernel_rfl
theorem ty_syn : (Tryd.prog.globals[0]?).map (·.type) = some 74 := by kernel_rfl
theorem ty_ran : (Tryd.prog.globals[1]?).map (·.type) = some 74 := by kernel_rfl
theorem und_pow : Tryd.prog.underlying 172 = some (.array 20 38) := by kernel_rfl
theorem und_u64 : Tryd.prog.underlying 38 = some (.int .u64) := by kernel_rfl
theorem und_err : ∃ ms, Tryd.prog.underlying 74 = some (.interface ms) := by
  have h : (match Tryd.prog.underlying 74 with | some (.interface _) => true | _ => false) = true := by kernel_rfl
  split at h
  · rename_i ms e
    exact ⟨ms, e⟩
  · cases h
theorem tabs_laid {l : List (String × DataW Unit)} {W : World} (h : laidMet Tryd.prog l W) (h1 : ("strconv.ErrSyntax", Rows.laid_strconv_ErrSyntax) ∈ l) (h2 : ("strconv.ErrRange", Rows.laid_strconv_ErrRange) ∈ l) (h3 : ("internal/strconv.uint64pow10", Rows.laid_internal_strconv_uint64pow10) ∈ l) : TabsAt W := by
  intro b p hb
  obtain ⟨ms, und_err⟩ := und_err
  have e3 : (Rows.laid_internal_strconv_uint64pow10 : DataW Unit) = Lib.tabData .u64 Lib.pow10Tab := by kernel_rfl
  rw [e3] at h3
  rcases List.mem_cons.1 hb with e | hb
  · injection e with e1 e2
    subst e1 e2
    exact iface_at h h1 g_syn ty_syn und_err
  · rcases List.mem_cons.1 hb with e | hb
    · injection e with e1 e2
      subst e1 e2
      exact iface_at h h2 g_ran ty_ran und_err
    · rcases List.mem_cons.1 hb with e | hb
      · injection e with e1 e2
        subst e1 e2
        exact tab_at h h3 g_pow ty_pow und_pow und_u64 (by kernel_rfl) (by kernel_rfl)
      · cases hb
end Go.Proofs.YtijabmpcicddbaaDoor
