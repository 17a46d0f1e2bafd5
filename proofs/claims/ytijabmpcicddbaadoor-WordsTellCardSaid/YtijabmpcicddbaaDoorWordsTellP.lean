/- WordsTell: what the code comes to answers true: plain numbers and texts, no program in sight. -/
import Derived.Test.YtijabmpcicddbaaDoorWordsL
set_option linter.unusedVariables false
set_option linter.unusedSimpArgs false
namespace Go.Proofs.YtijabmpcicddbaaDoor.WordsTell
open Go.Ve Go.Proofs.YtijabmpcicddbaaDoor.Words
theorem main {α : Type} (a_1 : ByteArray) (a_2 : Bool) (a_3 : Nat) (a_4 : Nat → Nat → PV) (a_5 : Int) (h_1 : PvOk (.val (.string a_1))) (h_2 : PvOk (.sl a_2 (.str .nil) 1 a_3 a_4)) (k_2 : RowK (.str .nil) a_3 a_4) (h_5 : PvOk (.val (.int .i64 a_5))) (k0 k1 : Option α) : law21_WordsTell a_1 a_2 a_3 a_4 a_5 k0 k1 = k0 := by
  unfold law21_WordsTell law21_WordsTell_T
  by_cases hs : (a_1.size : Int) > 3000
  · rw [dec_t hs, cond_true]
  rw [dec_f hs, cond_false]
  obtain ⟨b, hf, hb⟩ := fair h_2
  rw [hf]
  cases b with
  | false => rfl
  | true =>
  obtain ⟨hn, hl⟩ := hb rfl
  have hsz : a_1.size ≤ 3000 := by omega
  have hL := TL.of a_3 a_4
  have hbk := bulk_row hl
  have hlen : ((List.range a_3).map fun j => (textOf (a_4 j 0)).data.toList).length ≤ 1000000 := by simp; omega
  obtain ⟨nl1, n1, f1, t1, c1⟩ := cutP a_1 (by omega) (fun _ _ => .val undef)
  obtain ⟨nl2, n2, f2, t2, c2⟩ := cutR a_1 (by omega) (fun _ _ => .val undef)
  obtain ⟨nl3, n3, f3, j1, j2, j3⟩ := joinP (b := false) hL hlen (by omega) (fun _ _ => .val undef)
  have hw : (words a_1.data.toList).length ≤ 1000000 := by
    have h1 := bulk_len (words a_1.data.toList)
    have h2 := words_bulk a_1.data.toList
    rw [bl_size] at h2
    omega
  have e1 : splitOk a_1 (⟨#[32]⟩ : ByteArray) = true := splitOk_of (by omega)
  have e2 : Nat.ble ((0 + a_3) * 16) bound = true := ble_true (by unfold bound; omega)
  have e3 : okI a_5 = true := okI_spec.2 (pv_i64 h_5)
  rw [Nat.zero_add] at e2
  rw [show (!true) = false from rfl, cond_false, ble_true (by omega), cond_true, num_eq]
  rw [catf_zero, Nat.zero_add]
  unfold numI
  cases numOk a_1 with
  | false =>
    rw [cond_false, e1, cond_true, c1, c2, texts t1 t2 hw, e2, cond_true, j3, j1, cond_true, joinR hL hlen (by omega), j2, beq_self_eq_true, cond_true, e3, cond_true, text_eq e3, beq_self_eq_true, cond_true]
    rfl
  | true =>
    rw [cond_true, e1, cond_true, c1, c2, texts t1 t2 hw, e2, cond_true, j3, j1, cond_true, joinR hL hlen (by omega), j2, beq_self_eq_true, cond_true, e3, cond_true, text_eq e3, beq_self_eq_true, cond_true, cond_true, beq_self_eq_true]
    rfl
end Go.Proofs.YtijabmpcicddbaaDoor.WordsTell
