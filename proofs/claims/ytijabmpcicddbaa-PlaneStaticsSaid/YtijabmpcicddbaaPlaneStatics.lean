/- PlaneStatics answers true for every input, and leaves its arguments as they were: proved with no condition beyond the statement's own. -/
import Derived.Test.YtijabmpcicddbaaRows
import Derived.Test.YtijabmpcicddbaaPlaneStaticsP
import Derived.JoinedOf
import Derived.JoinedAt
import Derived.Handed
set_option linter.unusedVariables false
namespace Go.Proofs.Ytijabmpcicddbaa.PlaneStatics
open Go.Ve
theorem cells0_eq {H : Type} (d0 : DataW H) : tpv Try.prog 8 85 d0 = [.val (.int .u8 (dint (dsub d0 0))), .val (.int .u8 (dint (dsub d0 1))), .val (.int .u8 (dint (dsub d0 2)))] := by kernel_rfl
theorem args_eq {H : Type} (d0 : DataW H) : targs Try.prog 8 [85] [d0] = [.v (.agg [.pv (.val (.int .u8 (dint (dsub d0 0)))), .pv (.val (.int .u8 (dint (dsub d0 1)))), .pv (.val (.int .u8 (dint (dsub d0 2))))])] := by kernel_rfl
theorem params : Try.f9.params.toList = [85] := by kernel_rfl
set_option maxRecDepth 100000 in
theorem contract (H : Type) (enc : TypeId × Value → H) (W : World) (base : Nat) (args : Array Value) (ds gs : List (DataW H)) (before : List MemPlace)
    (hval : ∀ (j : Nat) t v, Try.f9.params[j]? = some t → args[j]? = some v → Value.okWide Try.prog W .any base t v)
    (hW : DataW.Whole enc Try.prog Try.f9.params.toList Rows.planeStaticsSpec.vars false W args.toList ds gs before) :
    Calls Try.prog 9 args W fun e W' => ∃ v, e = .returned v ∧ Rows.planeStaticsSpec.post enc Try.prog Try.f9 false true false false W args v W' := by
  refine gate (P := Try.prog) (f := 9) (fn := Try.f9) (s := Rows.planeStaticsSpec) (n := 8) (tb := 4) (by kernel_rfl) laid (by kernel_rfl) (by kernel_rfl) (by kernel_rfl) rfl (fun ds hl => ?_) (fun b p hb => by cases hb) hval hW fun _ hl hok => ⟨_, [], call_ok, fun k => ?_⟩
  · rw [params] at hl
    match ds, hl with
    | [d0], _ => rfl
  · rw [params] at hl hok ⊢
    match ds, hl, hok with
    | [d0], _, hok =>
      obtain ⟨hp0, _⟩ := hok
      rw [cells0_eq] at hp0
      rw [args_eq]
      exact (law_eq (dint (dsub d0 0)) (dint (dsub d0 1)) (dint (dsub d0 2)) k).trans (main (dint (dsub d0 0)) (dint (dsub d0 1)) (dint (dsub d0 2)) (hp0 _ (.head _)) (hp0 _ (.tail _ (.head _))) (hp0 _ (.tail _ (.tail _ (.head _)))) _ _)
set_option maxRecDepth 100000 in
theorem lifted (os : Os) (started : os.Started) (H : Type) (enc : TypeId × Value → H) :
    ReturnsInHanded {} Try.checked os 9 .any (Rows.planeStaticsSpec.pre6 enc Try.prog Try.f9 Rows.planeStaticsRow.domain false) (Rows.planeStaticsSpec.post enc Try.prog Try.f9 false true false false) := by
  refine returnsInHanded_of_change (C := Try.checked) (show ownKnob Try.prog.godebug = none by kernel_rfl) started (by kernel_rfl) Try.func9
    (ChangeSpec.witness6 (enc := enc) (C := Try.checked) false ⟨#[], #[.agg #[.int .u8 0, .int .u8 0, .int .u8 0]], []⟩ 8 (by kernel_rfl) (by kernel_rfl) (by kernel_rfl) (by kernel_rfl)) ?_
  intro W base args ds gs before hval hW _ _
  exact contract H enc W base args ds gs before hval hW
theorem proved : Rows.PlaneStaticsSaid :=
  OpenClaim.holds_of_wide 9 Try.f9 rfl rfl rfl rfl rfl rfl rfl ⟨rfl, rfl, rfl, rfl, rfl⟩ rfl rfl rfl rfl rfl (by kernel_rfl) Try.func9 (by kernel_rfl)
    (of_decide_eq_true (by kernel_rfl)) (by unfold Func.isWrapper; first | (rw [if_pos (by decide +kernel)]; kernel_rfl) | (rw [if_neg (by decide +kernel)]; exact ⟨rfl, rfl⟩))
    (fun os started H enc _ => lifted os started H enc)
end Go.Proofs.Ytijabmpcicddbaa.PlaneStatics
