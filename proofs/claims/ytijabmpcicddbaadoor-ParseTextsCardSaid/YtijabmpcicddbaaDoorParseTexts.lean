/- ParseTexts answers true for every input, and leaves its arguments as they were: proved with no condition beyond the statement's own. -/
import Derived.Test.YtijabmpcicddbaaDoorTie
import Derived.Test.YtijabmpcicddbaaDoorCards
import Derived.ProofKit
import Derived.OpenShut
import Derived.LaidMore
import Derived.Lay
import Derived.SevenTiedAt
import Derived.Stop.Joined
import Derived.Test.YtijabmpcicddbaaDoorRows
import Derived.Test.YtijabmpcicddbaaDoorParseTextsP
import Derived.JoinedOf
import Derived.JoinedAt
import Derived.Handed
set_option linter.unusedVariables false
namespace Go.Proofs.YtijabmpcicddbaaDoor.ParseTexts
open Go.Ve
theorem cells0_eq {H : Type} (d0 : DataW H) : tpv Tryd.prog 8 43 d0 = [.val (.int .i64 (dint (dsub d0 0))), .val (.int .i64 (dint (dsub (dsub d0 1) 0))), .val (.int .i64 (dint (dsub (dsub d0 1) 1))), .val (.int .i64 (dint (dsub (dsub d0 1) 2))), .val (.int .i64 (dint (dsub (dsub d0 1) 3))), .val (.int .u8 (dint (dsub (dsub d0 1) 4))), .val (.int .u8 (dint (dsub (dsub d0 1) 5))), .val (.int .u64 (dint (dsub (dsub d0 1) 6)))] := by kernel_rfl
theorem args_eq {H : Type} (d0 : DataW H) : targs Tryd.prog 8 [43] [d0] = [.v (.agg [.pv (.val (.int .i64 (dint (dsub d0 0)))), .pv (.val (.int .i64 (dint (dsub (dsub d0 1) 0)))), .pv (.val (.int .i64 (dint (dsub (dsub d0 1) 1)))), .pv (.val (.int .i64 (dint (dsub (dsub d0 1) 2)))), .pv (.val (.int .i64 (dint (dsub (dsub d0 1) 3)))), .pv (.val (.int .u8 (dint (dsub (dsub d0 1) 4)))), .pv (.val (.int .u8 (dint (dsub (dsub d0 1) 5)))), .pv (.val (.int .u64 (dint (dsub (dsub d0 1) 6))))])] := by kernel_rfl
theorem params : Tryd.f7.params.toList = [43] := by kernel_rfl
set_option maxRecDepth 100000 in
theorem contract (H : Type) (enc : TypeId × Value → H) (W : World) (base : Nat) (args : Array Value) (ds gs : List (DataW H)) (before : List MemPlace)
    (hval : ∀ (j : Nat) t v, Tryd.f7.params[j]? = some t → args[j]? = some v → Value.okWide Tryd.prog W .any base t v)
    (hW : DataW.Whole enc Tryd.prog Tryd.f7.params.toList Rows.parseTextsSpec.vars false W args.toList ds gs before) (hT : TabsAt W) :
    Calls Tryd.prog 7 args W fun e W' => ∃ v, e = .returned v ∧ Rows.parseTextsSpec.post enc Tryd.prog Tryd.f7 false true false false W args v W' := by
  refine gate (P := Tryd.prog) (f := 7) (fn := Tryd.f7) (s := Rows.parseTextsSpec) (n := 8) (tb := 4) (by kernel_rfl) laid (by kernel_rfl) (by kernel_rfl) (by kernel_rfl) rfl (fun ds hl => ?_) hT hval hW fun _ hl hok => ⟨_, [], call_ok, fun k => ?_⟩
  · rw [params] at hl
    match ds, hl with
    | [d0], _ => rfl
  · rw [params] at hl hok ⊢
    match ds, hl, hok with
    | [d0], _, hok =>
      obtain ⟨hp0, _⟩ := hok
      rw [cells0_eq] at hp0
      rw [args_eq]
      exact (law_eq (dint (dsub d0 0)) (dint (dsub (dsub d0 1) 0)) (dint (dsub (dsub d0 1) 1)) (dint (dsub (dsub d0 1) 2)) (dint (dsub (dsub d0 1) 3)) (dint (dsub (dsub d0 1) 4)) (dint (dsub (dsub d0 1) 5)) (dint (dsub (dsub d0 1) 6)) k).trans (main (dint (dsub d0 0)) (dint (dsub (dsub d0 1) 0)) (dint (dsub (dsub d0 1) 1)) (dint (dsub (dsub d0 1) 2)) (dint (dsub (dsub d0 1) 3)) (dint (dsub (dsub d0 1) 4)) (dint (dsub (dsub d0 1) 5)) (dint (dsub (dsub d0 1) 6)) (hp0 _ (.head _)) (hp0 _ (.tail _ (.head _))) (hp0 _ (.tail _ (.tail _ (.head _)))) (hp0 _ (.tail _ (.tail _ (.tail _ (.head _))))) (hp0 _ (.tail _ (.tail _ (.tail _ (.tail _ (.head _)))))) (hp0 _ (.tail _ (.tail _ (.tail _ (.tail _ (.tail _ (.head _))))))) (hp0 _ (.tail _ (.tail _ (.tail _ (.tail _ (.tail _ (.tail _ (.head _)))))))) (hp0 _ (.tail _ (.tail _ (.tail _ (.tail _ (.tail _ (.tail _ (.tail _ (.head _))))))))) _ _)
open Go.RowKit
set_option maxRecDepth 100000 in
theorem lifted (os : Os) (started : os.Started) (H : Type) (enc : TypeId × Value → H) :
    ReturnsInHanded {} Tryd.checked os 7 .any (fun w args => (Rows.parseTextsSpec.pre enc Tryd.prog Tryd.f7 Rows.parseTextsRow.domain false w args ∧ laidMetH Tryd.prog Rows.parseTextsRow.laid w) ∧ sizedMet enc Tryd.prog Tryd.f7 (OpenSpec.ofChange Rows.parseTextsSpec) false w args)
      (Rows.parseTextsSpec.post enc Tryd.prog Tryd.f7 false true false false) := by
  refine returnsInHanded_of_change_and (C := Tryd.checked) (X := (fun w _ => laidMetH Tryd.prog Rows.parseTextsRow.laid w)) (fun _ _ _ hh h => h.of_heap hh) (show ownKnob Tryd.prog.godebug = none by kernel_rfl) started (by kernel_rfl) Tryd.func7
    (ChangeSpec.witness_shaped (enc := enc) (C := Tryd.checked) (os := os) (X := (fun w _ => laidMetH Tryd.prog Rows.parseTextsRow.laid w)) false (World.laidAll Tryd.prog os Rows.parseTextsRow.laid) #[.agg #[.int .i64 0, .int .i64 0, .int .i64 0, .int .i64 0, .int .i64 0, .int .u8 0, .int .u8 0, .int .u64 0]] 8 (World.laidAll_os _ _ _)
      (World.shaped_of_ZipB (by kernel_rfl) (by kernel_rfl)) (by kernel_rfl) (by kernel_rfl) (by kernel_rfl)
      (by rw [MakeChecks.laidMetH_plain _ _ _ (by kernel_rfl)]; exact laidMet_laidAll _ (by kernel_rfl) (by kernel_rfl))) ?_
  intro W base args ds gs before hval hW _ _ hL _
  rw [MakeChecks.laidMetH_plain _ _ _ (by kernel_rfl)] at hL
  exact contract H enc W base args ds gs before hval hW (tabs_laid hL (.tail _ (.tail _ (.tail _ (.tail _ (.tail _ (.head _)))))) (.tail _ (.tail _ (.tail _ (.tail _ (.head _))))) (.tail _ (.tail _ (.head _))))
theorem row_holds : Rows.ParseTextsSaid :=
  OpenClaim.holds_of_wide 7 Tryd.f7 rfl rfl rfl rfl rfl rfl rfl ⟨rfl, rfl, rfl, rfl, rfl⟩ rfl rfl rfl rfl rfl (by kernel_rfl) Tryd.func7 (by kernel_rfl)
    (of_decide_eq_true (by kernel_rfl)) (by unfold Func.isWrapper; first | (rw [if_pos (by decide +kernel)]; kernel_rfl) | (rw [if_neg (by decide +kernel)]; exact ⟨rfl, rfl⟩))
    (fun os started H enc _ => lifted os started H enc)
theorem proved : Rows.ParseTextsCardSaid :=
  Claim7.holds_tied_plain_at .later [] [.data, .data, .data, .data, .sentinel, .sentinel, .pinned] true (true, "169fae74e2075c2f951f357cdb48ea0b5a0f6d2f71a2686a7588a130aeb72f1f") true row_holds (fun _ h => by cases h) (by kernel_rfl) (fun _ h => by cases h) parseTexts_row_tie rfl ⟨rfl, rfl⟩ (by kernel_rfl) rfl
    (fun f fn hf hfn => by
      obtain rfl : f = 7 := Option.some.inj ((show Tryd.prog.funcNamed "weirgate/weirgatelaw22.ParseTexts" = some 7 by kernel_rfl).symm.trans hf) |>.symm
      obtain rfl : fn = Tryd.f7 := (Option.some.inj (Tryd.func7.symm.trans hfn)).symm
      exact ⟨by kernel_rfl, fun j t ht => by
        have hm : t ∈ Tryd.f7.params.toList := by simpa using Array.mem_of_getElem? ht
        have hall : (Tryd.f7.params.toList.all fun u => !Tryd.prog.wantsStandIn u) = true := by kernel_rfl
        exact (show Tryd.prog.wantsStandIn t = false by simpa using List.all_eq_true.1 hall t hm)⟩)
    (by kernel_rfl)
end Go.Proofs.YtijabmpcicddbaaDoor.ParseTexts
