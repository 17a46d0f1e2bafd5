/- The evaluator ("VE"): texts cut at one byte, and put together again. -/
import Derived.Test.YtijabmpcicddbaaVe31
import Derived.Lib.Split
import Derived.Lib.SplitLaws
import Derived.Lib.IndexBytes
import Derived.Lib.Join
namespace Go.Ve
theorem index_hit (c : UInt8) : ∀ (l : List UInt8), Lib.indexByte l c = -1 ∨ ∃ i : Nat, Lib.indexByte l c = (i : Int) ∧ l = l.take i ++ c :: l.drop (i + 1)
  | [] => .inl rfl
  | b :: l => by
    unfold Lib.indexByte
    by_cases h : (b == c) = true
    · rw [if_pos h]
      refine .inr ⟨0, rfl, ?_⟩
      rw [beq_iff_eq.1 h]
      rfl
    · rw [if_neg h]
      rcases index_hit c l with h1 | ⟨i, h1, h2⟩
      · rw [if_pos (beq_iff_eq.2 h1)]
        exact .inl rfl
      · rw [if_neg (by rw [h1, beq_iff_eq]; omega), h1]
        refine .inr ⟨i + 1, by omega, ?_⟩
        have : b :: l = b :: (l.take i ++ c :: l.drop (i + 1)) := by rw [← h2]
        simpa using this
theorem splitK_ne (sep : List UInt8) (sv : Nat) (k : Nat) (l : List UInt8) : ∃ a r, Lib.splitK sep sv k l = a :: r := by
  cases k with
  | zero => exact ⟨l, [], rfl⟩
  | succ k =>
    unfold Lib.splitK
    split
    · exact ⟨_, _, rfl⟩
    · exact ⟨_, _, rfl⟩
theorem join_two (sep a : List UInt8) (r : List (List UInt8)) (h : r ≠ []) : Lib.join (a :: r) sep = a ++ (sep ++ Lib.join r sep) := by
  cases r with
  | nil => exact absurd rfl h
  | cons b r => simp [Lib.join, List.intercalate]
theorem splitK_join (c : UInt8) : ∀ (k : Nat) (l : List UInt8), Lib.join (Lib.splitK [c] 0 k l) [c] = l
  | 0, l => by simp [Lib.splitK, Lib.join, List.intercalate]
  | k + 1, l => by
    unfold Lib.splitK
    rw [Lib.index_one]
    rcases index_hit c l with h | ⟨i, h, e⟩
    · rw [if_pos (beq_iff_eq.2 h)]
      simp [Lib.join, List.intercalate]
    · rw [if_neg (by rw [h, beq_iff_eq]; omega), h]
      obtain ⟨a, r, hr⟩ := splitK_ne [c] 0 k (l.drop (Int.toNat i + [c].length))
      rw [join_two _ _ _ (by rw [hr]; simp), splitK_join c k]
      simpa using e.symm
theorem splitL_eq (s : ByteArray) (c : UInt8) : splitL s ⟨#[c]⟩ = (Lib.splitK [c] 0 (s.data.toList.count c) s.data.toList).map fun l => ⟨l.toArray⟩ := by
  have h := Lib.splitB_data ⟨#[c]⟩ 0 (Lib.countB s ⟨#[c]⟩) s
  have e : Lib.countB s ⟨#[c]⟩ = s.data.toList.count c := Lib.count_one c s.data.toList
  rw [show (⟨#[c]⟩ : ByteArray).data.toList = [c] from rfl, e] at h
  rw [← h, List.map_map]
  unfold splitL
  rw [e]
  exact (List.map_id' _).symm
end Go.Ve
