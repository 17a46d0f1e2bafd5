/- MacBack answers true for every input, and leaves its arguments as they were: proved with no condition beyond the statement's own. -/
import Derived.Test.YtampnnhdgnhjaaaDoorTie
import Derived.Test.YtampnnhdgnhjaaaDoorCards
import Derived.ProofKit
import Derived.OpenShut
import Derived.LaidMore
import Derived.Lay
import Derived.SevenTiedAt
import Derived.Stop.Joined
import Derived.Test.YtampnnhdgnhjaaaDoorRows
import Derived.Test.YtampnnhdgnhjaaaDoorMacBackP
import Derived.JoinedOf
import Derived.JoinedAt
import Derived.Handed
set_option linter.unusedVariables false
namespace Go.Proofs.YtampnnhdgnhjaaaDoor.MacBack
open Go.Ve
theorem cells0_eq {H : Type} (d0 : DataW H) : tpv Tryd.prog 8 22 d0 = [.val (.int .u64 (dint d0))] := by kernel_rfl
theorem cells1_eq {H : Type} (d1 : DataW H) : tpv Tryd.prog 8 22 d1 = [.val (.int .u64 (dint d1))] := by kernel_rfl
theorem cells2_eq {H : Type} (d2 : DataW H) : tpv Tryd.prog 8 9 d2 = [.val (.string (dstr d2))] := by kernel_rfl
theorem args_eq {H : Type} (d0 : DataW H) (d1 : DataW H) (d2 : DataW H) : targs Tryd.prog 8 [22, 22, 9] [d0, d1, d2] = [.v (.c (.pv (.val (.int .u64 (dint d0))))), .v (.c (.pv (.val (.int .u64 (dint d1))))), .v (.c (.pv (.val (.string (dstr d2)))))] := by kernel_rfl
theorem params : Tryd.f4.params.toList = [22, 22, 9] := by kernel_rfl
set_option maxRecDepth 100000 in
theorem contract (H : Type) (enc : TypeId × Value → H) (W : World) (base : Nat) (args : Array Value) (ds gs : List (DataW H)) (before : List MemPlace)
    (hval : ∀ (j : Nat) t v, Tryd.f4.params[j]? = some t → args[j]? = some v → Value.okWide Tryd.prog W .any base t v)
    (hW : DataW.Whole enc Tryd.prog Tryd.f4.params.toList Rows.macBackSpec.vars false W args.toList ds gs before) :
    Calls Tryd.prog 4 args W fun e W' => ∃ v, e = .returned v ∧ Rows.macBackSpec.post enc Tryd.prog Tryd.f4 false true false false W args v W' := by
  refine gate (P := Tryd.prog) (f := 4) (fn := Tryd.f4) (s := Rows.macBackSpec) (n := 8) (tb := 4) (by kernel_rfl) laid (by kernel_rfl) (by kernel_rfl) (by kernel_rfl) rfl (fun ds hl => ?_) hval hW fun _ hl hok => ⟨_, [], call_ok, fun k => ?_⟩
  · rw [params] at hl
    match ds, hl with
    | [d0, d1, d2], _ => rfl
  · rw [params] at hl hok ⊢
    match ds, hl, hok with
    | [d0, d1, d2], _, hok =>
      obtain ⟨hp0, hp1, hp2, _⟩ := hok
      rw [cells0_eq] at hp0
      rw [cells1_eq] at hp1
      rw [cells2_eq] at hp2
      rw [args_eq]
      exact (law_eq (dint d0) (dint d1) (dstr d2) k).trans (main (dint d0) (dint d1) (dstr d2) (hp0 _ (.head _)) (hp1 _ (.head _)) (hp2 _ (.head _)) _ _)
open Go.RowKit
set_option maxRecDepth 100000 in
theorem lifted (os : Os) (started : os.Started) (H : Type) (enc : TypeId × Value → H) :
    ReturnsInHanded {} Tryd.checked os 4 .any (fun w args => (Rows.macBackSpec.pre enc Tryd.prog Tryd.f4 Rows.macBackRow.domain false w args ∧ laidMetH Tryd.prog Rows.macBackRow.laid w) ∧ sizedMet enc Tryd.prog Tryd.f4 (OpenSpec.ofChange Rows.macBackSpec) false w args)
      (Rows.macBackSpec.post enc Tryd.prog Tryd.f4 false true false false) := by
  refine returnsInHanded_of_change_and (C := Tryd.checked) (X := (fun w _ => laidMetH Tryd.prog Rows.macBackRow.laid w)) (fun _ _ _ hh h => h.of_heap hh) (show ownKnob Tryd.prog.godebug = none by kernel_rfl) started (by kernel_rfl) Tryd.func4
    (ChangeSpec.witness_shaped (enc := enc) (C := Tryd.checked) (os := os) (X := (fun w _ => laidMetH Tryd.prog Rows.macBackRow.laid w)) false (World.laidAll Tryd.prog os Rows.macBackRow.laid) #[.int .u64 0, .int .u64 0, .string ⟨#[]⟩] 8 (World.laidAll_os _ _ _)
      (World.shaped_of_ZipB (by kernel_rfl) (by kernel_rfl)) (by kernel_rfl) (by kernel_rfl) (by kernel_rfl)
      (by rw [MakeChecks.laidMetH_plain _ _ _ (by kernel_rfl)]; exact laidMet_laidAll _ (by kernel_rfl) (by kernel_rfl))) ?_
  intro W base args ds gs before hval hW _ _ _ _
  exact contract H enc W base args ds gs before hval hW
theorem row_holds : Rows.MacBackSaid :=
  OpenClaim.holds_of_wide 4 Tryd.f4 rfl rfl rfl rfl rfl rfl rfl ⟨rfl, rfl, rfl, rfl, rfl⟩ rfl rfl rfl rfl rfl (by kernel_rfl) Tryd.func4 (by kernel_rfl)
    (of_decide_eq_true (by kernel_rfl)) (by unfold Func.isWrapper; first | (rw [if_pos (by decide +kernel)]; kernel_rfl) | (rw [if_neg (by decide +kernel)]; exact ⟨rfl, rfl⟩))
    (fun os started H enc _ => lifted os started H enc)
theorem proved : Rows.MacBackCardSaid :=
  Claim7.holds_tied_plain_at .later [] [.data, .pinned] true (true, "ca9ec8670cd4d2ff926b8213f3842dd5bc77e59aafc6de9ae7809984beef3641") false row_holds (fun _ h => by cases h) (by kernel_rfl) (fun _ h => by cases h) macBack_row_tie rfl ⟨rfl, rfl⟩ (by kernel_rfl) rfl
    (fun f fn hf hfn => by
      obtain rfl : f = 4 := Option.some.inj ((show Tryd.prog.funcNamed "weirgate/weirgatelaw09.MacBack" = some 4 by kernel_rfl).symm.trans hf) |>.symm
      obtain rfl : fn = Tryd.f4 := (Option.some.inj (Tryd.func4.symm.trans hfn)).symm
      exact ⟨by kernel_rfl, fun j t ht => by
        have hm : t ∈ Tryd.f4.params.toList := by simpa using Array.mem_of_getElem? ht
        have hall : (Tryd.f4.params.toList.all fun u => !Tryd.prog.wantsStandIn u) = true := by kernel_rfl
        exact (show Tryd.prog.wantsStandIn t = false by simpa using List.all_eq_true.1 hall t hm)⟩)
    (by kernel_rfl)
end Go.Proofs.YtampnnhdgnhjaaaDoor.MacBack
