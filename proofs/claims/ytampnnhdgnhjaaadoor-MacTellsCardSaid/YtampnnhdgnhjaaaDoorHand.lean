/- strings.Join, strings.genSplit at one byte, strings.IndexByte, as the evaluator's summaries, out of the contracts laid for this translation. -/
import Derived.Test.YtampnnhdgnhjaaaDoorSeat
import Derived.Test.YtampnnhdgnhjaaaDoorShelf
import Derived.Shelf.Strings.SplitCore
set_option linter.unusedVariables false
namespace Go.Proofs.YtampnnhdgnhjaaaDoor
open Go.Ve Go.Lib
theorem join_ok : SumOk Tryd.prog 25 joinSm := join_sum ⟨_, Tryd.func25, by kernel_rfl, by kernel_rfl⟩ Tryd.strings_Join_none Tryd.strings_Join
theorem idx_ok : SumOk Tryd.prog 24 idxSm := idx_sum ⟨_, Tryd.func24, by kernel_rfl, by kernel_rfl⟩ Tryd.strings_IndexByte
theorem indexB_1 (x : ByteArray) (c : UInt8) : Lib.indexB x ⟨#[c]⟩ = Lib.indexByte x.data.toList c := Lib.index_one x.data.toList c
theorem countB_1 (x : ByteArray) (c : UInt8) : Lib.countB x ⟨#[c]⟩ = Lib.countByte x.data.toList c := Lib.count_one c x.data.toList
theorem split_one (s : ByteArray) (c : UInt8) (w : World) (hs : s.size < 4294967281) : Calls Tryd.prog 26 #[.string s, .string ⟨#[c]⟩, .int .i64 0, .int .i64 (-1)] w fun e w' =>
    e = .returned (.slice (some ⟨w.heap.size, 0, none⟩) (Lib.countB s ⟨#[c]⟩ + 1) (Lib.countB s ⟨#[c]⟩ + 1)) ∧ w' = w.alloc (.cells ((Lib.splitB ⟨#[c]⟩ 0 (Lib.countB s ⟨#[c]⟩) s).map Value.string).toArray 9) := by
  have h1 : 1 ≤ (⟨#[c]⟩ : ByteArray).size := Nat.le_refl 1
  have hle := Lib.countB_le ⟨#[c]⟩ h1 s.size s (Nat.le_refl _)
  have hlen := Lib.splitB_all ⟨#[c]⟩ h1 0 _ s rfl
  have key := Any.strings_genSplit_core Tryd.lays221 (by kernel_rfl) s ⟨#[c]⟩ 0 (-1) (Lib.countB s ⟨#[c]⟩ + 1) w hs h1 (Nat.zero_le _)
    (fun x cs _ => Calls.mono (Tryd.strings_Index_one x c _) fun e w' ⟨he, hw⟩ => ⟨by rw [he, indexB_1], hw⟩)
    (Calls.mono (Tryd.strings_Count_one s c w) fun e w' ⟨he, hw⟩ => ⟨by rw [he, countB_1], hw⟩)
    (by decide) (by decide) (by rw [if_pos (by decide)]; omega)
  rw [Nat.add_sub_cancel, hlen] at key
  refine Calls.mono key fun e w' ⟨he, hw⟩ => ⟨he, ?_⟩
  rw [hw]
  congr 2
  rw [← hlen]
  exact Lib.cellsOf_full _
theorem split_ok : SumOk Tryd.prog 26 splitSm := split_sum ⟨_, Tryd.func26, by kernel_rfl, by kernel_rfl⟩ split_one
end Go.Proofs.YtampnnhdgnhjaaaDoor
