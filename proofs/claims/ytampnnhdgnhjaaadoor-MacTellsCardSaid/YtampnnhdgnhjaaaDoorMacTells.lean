/- MacTells answers true for every input, and leaves its arguments as they were: proved with no condition beyond the statement's own. -/
import Derived.Test.YtampnnhdgnhjaaaDoorTie
import Derived.Test.YtampnnhdgnhjaaaDoorCards
import Derived.ProofKit
import Derived.OpenShut
import Derived.LaidMore
import Derived.Lay
import Derived.SevenTiedAt
import Derived.Stop.Joined
import Derived.Test.YtampnnhdgnhjaaaDoorRows
import Derived.Test.YtampnnhdgnhjaaaDoorMacTellsP
import Derived.JoinedOf
import Derived.JoinedAt
import Derived.Handed
set_option linter.unusedVariables false
namespace Go.Proofs.YtampnnhdgnhjaaaDoor.MacTells
open Go.Ve
theorem cells0_eq {H : Type} (d0 : DataW H) : tpv Tryd.prog 8 22 d0 = [.val (.int .u64 (dint d0))] := by kernel_rfl
theorem ck_7_5 : ckT Tryd.prog 7 5 = (.int .u8 .nil) := by kernel_rfl
theorem rowk_7_5 {H : Type} (d : DataW H) (n : Nat) : RowK (.int .u8 .nil) n (fun j c => (tpv Tryd.prog 7 5 (delem d j)).getD c (.val undef)) := fun j _ c => by
  have h := (tpv_kinds (P := Tryd.prog) 7 5 (delem d j)).get c
  rw [ck_7_5] at h
  exact h
theorem cells1_eq {H : Type} (d1 : DataW H) : tpv Tryd.prog 8 23 d1 = [.sl (dnil d1) (.int .u8 .nil) 1 (dlen d1) (fun j c => (tpv Tryd.prog 7 5 (delem d1 j)).getD c (.val undef))] := by kernel_rfl
theorem cells2_eq {H : Type} (d2 : DataW H) : tpv Tryd.prog 8 9 d2 = [.val (.string (dstr d2))] := by kernel_rfl
theorem args_eq {H : Type} (d0 : DataW H) (d1 : DataW H) (d2 : DataW H) : targs Tryd.prog 8 [22, 23, 9] [d0, d1, d2] = [.v (.c (.pv (.val (.int .u64 (dint d0))))), .v (.c (.pv (.sl (dnil d1) (.int .u8 .nil) 1 (dlen d1) (fun j c => (tpv Tryd.prog 7 5 (delem d1 j)).getD c (.val undef))))), .v (.c (.pv (.val (.string (dstr d2)))))] := by kernel_rfl
theorem params : Tryd.f3.params.toList = [22, 23, 9] := by kernel_rfl
set_option maxRecDepth 100000 in
theorem contract (H : Type) (enc : TypeId × Value → H) (W : World) (base : Nat) (args : Array Value) (ds gs : List (DataW H)) (before : List MemPlace)
    (hval : ∀ (j : Nat) t v, Tryd.f3.params[j]? = some t → args[j]? = some v → Value.okWide Tryd.prog W .any base t v)
    (hW : DataW.Whole enc Tryd.prog Tryd.f3.params.toList Rows.macTellsSpec.vars false W args.toList ds gs before) :
    Calls Tryd.prog 3 args W fun e W' => ∃ v, e = .returned v ∧ Rows.macTellsSpec.post enc Tryd.prog Tryd.f3 false true false false W args v W' := by
  refine gate (P := Tryd.prog) (f := 3) (fn := Tryd.f3) (s := Rows.macTellsSpec) (n := 8) (tb := 4) (by kernel_rfl) laid (by kernel_rfl) (by kernel_rfl) (by kernel_rfl) rfl (fun ds hl => ?_) hval hW fun _ hl hok => ⟨_, [], call_ok, fun k => ?_⟩
  · rw [params] at hl
    match ds, hl with
    | [d0, d1, d2], _ => rfl
  · rw [params] at hl hok ⊢
    match ds, hl, hok with
    | [d0, d1, d2], _, hok =>
      obtain ⟨hp0, hp1, hp2, _⟩ := hok
      rw [cells0_eq] at hp0
      rw [cells1_eq] at hp1
      rw [cells2_eq] at hp2
      rw [args_eq]
      exact (law_eq (dint d0) (dnil d1) (dlen d1) (fun j c => (tpv Tryd.prog 7 5 (delem d1 j)).getD c (.val undef)) (dstr d2) k).trans (main (dint d0) (dnil d1) (dlen d1) (fun j c => (tpv Tryd.prog 7 5 (delem d1 j)).getD c (.val undef)) (dstr d2) (hp0 _ (.head _)) (hp1 _ (.head _)) (rowk_7_5 _ _) (hp2 _ (.head _)) _ _)
open Go.RowKit
set_option maxRecDepth 100000 in
theorem lifted (os : Os) (started : os.Started) (H : Type) (enc : TypeId × Value → H) :
    ReturnsInHanded {} Tryd.checked os 3 .any (fun w args => (Rows.macTellsSpec.pre enc Tryd.prog Tryd.f3 Rows.macTellsRow.domain false w args ∧ laidMetH Tryd.prog Rows.macTellsRow.laid w) ∧ sizedMet enc Tryd.prog Tryd.f3 (OpenSpec.ofChange Rows.macTellsSpec) false w args)
      (Rows.macTellsSpec.post enc Tryd.prog Tryd.f3 false true false false) := by
  refine returnsInHanded_of_change_and (C := Tryd.checked) (X := (fun w _ => laidMetH Tryd.prog Rows.macTellsRow.laid w)) (fun _ _ _ hh h => h.of_heap hh) (show ownKnob Tryd.prog.godebug = none by kernel_rfl) started (by kernel_rfl) Tryd.func3
    (ChangeSpec.witness_shaped (enc := enc) (C := Tryd.checked) (os := os) (X := (fun w _ => laidMetH Tryd.prog Rows.macTellsRow.laid w)) false (World.laidAll Tryd.prog os Rows.macTellsRow.laid) #[.int .u64 0, .slice none 0 0, .string ⟨#[]⟩] 8 (World.laidAll_os _ _ _)
      (World.shaped_of_ZipB (by kernel_rfl) (by kernel_rfl)) (by kernel_rfl) (by kernel_rfl) (by kernel_rfl)
      (by rw [MakeChecks.laidMetH_plain _ _ _ (by kernel_rfl)]; exact laidMet_laidAll _ (by kernel_rfl) (by kernel_rfl))) ?_
  intro W base args ds gs before hval hW _ _ _ _
  exact contract H enc W base args ds gs before hval hW
theorem row_holds : Rows.MacTellsSaid :=
  OpenClaim.holds_of_wide 3 Tryd.f3 rfl rfl rfl rfl rfl rfl rfl ⟨rfl, rfl, rfl, rfl, rfl⟩ rfl rfl rfl rfl rfl (by kernel_rfl) Tryd.func3 (by kernel_rfl)
    (of_decide_eq_true (by kernel_rfl)) (by unfold Func.isWrapper; first | (rw [if_pos (by decide +kernel)]; kernel_rfl) | (rw [if_neg (by decide +kernel)]; exact ⟨rfl, rfl⟩))
    (fun os started H enc _ => lifted os started H enc)
theorem proved : Rows.MacTellsCardSaid :=
  Claim7.holds_tied_plain_at .later [] [.data, .pinned] true (true, "ca9ec8670cd4d2ff926b8213f3842dd5bc77e59aafc6de9ae7809984beef3641") false row_holds (fun _ h => by cases h) (by kernel_rfl) (fun _ h => by cases h) macTells_row_tie rfl ⟨rfl, rfl⟩ (by kernel_rfl) rfl
    (fun f fn hf hfn => by
      obtain rfl : f = 3 := Option.some.inj ((show Tryd.prog.funcNamed "weirgate/weirgatelaw09.MacTells" = some 3 by kernel_rfl).symm.trans hf) |>.symm
      obtain rfl : fn = Tryd.f3 := (Option.some.inj (Tryd.func3.symm.trans hfn)).symm
      exact ⟨by kernel_rfl, fun j t ht => by
        have hm : t ∈ Tryd.f3.params.toList := by simpa using Array.mem_of_getElem? ht
        have hall : (Tryd.f3.params.toList.all fun u => !Tryd.prog.wantsStandIn u) = true := by kernel_rfl
        exact (show Tryd.prog.wantsStandIn t = false by simpa using List.all_eq_true.1 hall t hm)⟩)
    (by kernel_rfl)
end Go.Proofs.YtampnnhdgnhjaaaDoor.MacTells
