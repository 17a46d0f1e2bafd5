/- WordsNums answers true for every input, and leaves its arguments as they were: proved with no condition beyond the statement's own. -/
import Derived.Test.YtijabmpcicddbaaDoorTie
import Derived.Test.YtijabmpcicddbaaDoorCards
import Derived.ProofKit
import Derived.OpenShut
import Derived.LaidMore
import Derived.Lay
import Derived.SevenTiedAt
import Derived.Stop.Joined
import Derived.Test.YtijabmpcicddbaaDoorRows
import Derived.Test.YtijabmpcicddbaaDoorWordsNumsP
import Derived.JoinedOf
import Derived.JoinedAt
import Derived.Handed
set_option linter.unusedVariables false
namespace Go.Proofs.YtijabmpcicddbaaDoor.WordsNums
open Go.Ve Go.Proofs.YtijabmpcicddbaaDoor.Words
theorem cells0_eq {H : Type} (d0 : DataW H) : tpv Tryd.prog 8 38 d0 = [.val (.int .u64 (dint d0))] := by kernel_rfl
theorem cells1_eq {H : Type} (d1 : DataW H) : tpv Tryd.prog 8 9 d1 = [.val (.string (dstr d1))] := by kernel_rfl
theorem args_eq {H : Type} (d0 : DataW H) (d1 : DataW H) : targs Tryd.prog 8 [38, 9] [d0, d1] = [.v (.c (.pv (.val (.int .u64 (dint d0))))), .v (.c (.pv (.val (.string (dstr d1)))))] := by kernel_rfl
theorem params : Tryd.f5.params.toList = [38, 9] := by kernel_rfl
set_option maxRecDepth 100000 in
theorem contract (H : Type) (enc : TypeId × Value → H) (W : World) (base : Nat) (args : Array Value) (ds gs : List (DataW H)) (before : List MemPlace)
    (hval : ∀ (j : Nat) t v, Tryd.f5.params[j]? = some t → args[j]? = some v → Value.okWide Tryd.prog W .any base t v)
    (hW : DataW.Whole enc Tryd.prog Tryd.f5.params.toList Rows.wordsNumsSpec.vars false W args.toList ds gs before) (hT : TabsAt W) :
    Calls Tryd.prog 5 args W fun e W' => ∃ v, e = .returned v ∧ Rows.wordsNumsSpec.post enc Tryd.prog Tryd.f5 false true false false W args v W' := by
  refine gate (P := Tryd.prog) (f := 5) (fn := Tryd.f5) (s := Rows.wordsNumsSpec) (n := 8) (tb := 4) (by kernel_rfl) laid (by kernel_rfl) (by kernel_rfl) (by kernel_rfl) rfl (fun ds hl => ?_) hT hval hW fun _ hl hok => ⟨_, [], call_ok_WordsNums, fun k => ?_⟩
  · rw [params] at hl
    match ds, hl with
    | [d0, d1], _ => rfl
  · rw [params] at hl hok ⊢
    match ds, hl, hok with
    | [d0, d1], _, hok =>
      obtain ⟨hp0, hp1, _⟩ := hok
      rw [cells0_eq] at hp0
      rw [cells1_eq] at hp1
      rw [args_eq]
      exact (law_eq_WordsNums (dint d0) (dstr d1) k).trans (main (dint d0) (dstr d1) (hp0 _ (.head _)) (hp1 _ (.head _)) _ _)
open Go.RowKit
set_option maxRecDepth 100000 in
theorem lifted (os : Os) (started : os.Started) (H : Type) (enc : TypeId × Value → H) :
    ReturnsInHanded {} Tryd.checked os 5 .any (fun w args => (Rows.wordsNumsSpec.pre enc Tryd.prog Tryd.f5 Rows.wordsNumsRow.domain false w args ∧ laidMetH Tryd.prog Rows.wordsNumsRow.laid w) ∧ sizedMet enc Tryd.prog Tryd.f5 (OpenSpec.ofChange Rows.wordsNumsSpec) false w args)
      (Rows.wordsNumsSpec.post enc Tryd.prog Tryd.f5 false true false false) := by
  refine returnsInHanded_of_change_and (C := Tryd.checked) (X := (fun w _ => laidMetH Tryd.prog Rows.wordsNumsRow.laid w)) (fun _ _ _ hh h => h.of_heap hh) (show ownKnob Tryd.prog.godebug = none by kernel_rfl) started (by kernel_rfl) Tryd.func5
    (ChangeSpec.witness_shaped (enc := enc) (C := Tryd.checked) (os := os) (X := (fun w _ => laidMetH Tryd.prog Rows.wordsNumsRow.laid w)) false (World.laidAll Tryd.prog os Rows.wordsNumsRow.laid) #[.int .u64 0, .string ⟨#[]⟩] 8 (World.laidAll_os _ _ _)
      (World.shaped_of_ZipB (by kernel_rfl) (by kernel_rfl)) (by kernel_rfl) (by kernel_rfl) (by kernel_rfl)
      (by rw [MakeChecks.laidMetH_plain _ _ _ (by kernel_rfl)]; exact laidMet_laidAll _ (by kernel_rfl) (by kernel_rfl))) ?_
  intro W base args ds gs before hval hW _ _ hL _
  rw [MakeChecks.laidMetH_plain _ _ _ (by kernel_rfl)] at hL
  exact contract H enc W base args ds gs before hval hW (tabs_laid hL (.tail _ (.tail _ (.tail _ (.tail _ (.tail _ (.head _)))))) (.tail _ (.tail _ (.tail _ (.tail _ (.head _))))) (.tail _ (.tail _ (.head _))))
theorem row_holds : Rows.WordsNumsSaid :=
  OpenClaim.holds_of_wide 5 Tryd.f5 rfl rfl rfl rfl rfl rfl rfl ⟨rfl, rfl, rfl, rfl, rfl⟩ rfl rfl rfl rfl rfl (by kernel_rfl) Tryd.func5 (by kernel_rfl)
    (of_decide_eq_true (by kernel_rfl)) (by unfold Func.isWrapper; first | (rw [if_pos (by decide +kernel)]; kernel_rfl) | (rw [if_neg (by decide +kernel)]; exact ⟨rfl, rfl⟩))
    (fun os started H enc _ => lifted os started H enc)
theorem proved : Rows.WordsNumsCardSaid :=
  Claim7.holds_tied_plain_at .later [] [.data, .data, .data, .data, .sentinel, .sentinel, .pinned] true (true, "169fae74e2075c2f951f357cdb48ea0b5a0f6d2f71a2686a7588a130aeb72f1f") true row_holds (fun _ h => by cases h) (by kernel_rfl) (fun _ h => by cases h) wordsNums_row_tie rfl ⟨rfl, rfl⟩ (by kernel_rfl) rfl
    (fun f fn hf hfn => by
      obtain rfl : f = 5 := Option.some.inj ((show Tryd.prog.funcNamed "weirgate/weirgatelaw21.WordsNums" = some 5 by kernel_rfl).symm.trans hf) |>.symm
      obtain rfl : fn = Tryd.f5 := (Option.some.inj (Tryd.func5.symm.trans hfn)).symm
      exact ⟨by kernel_rfl, fun j t ht => by
        have hm : t ∈ Tryd.f5.params.toList := by simpa using Array.mem_of_getElem? ht
        have hall : (Tryd.f5.params.toList.all fun u => !Tryd.prog.wantsStandIn u) = true := by kernel_rfl
        exact (show Tryd.prog.wantsStandIn t = false by simpa using List.all_eq_true.1 hall t hm)⟩)
    (by kernel_rfl)
end Go.Proofs.YtijabmpcicddbaaDoor.WordsNums
