/- PlaneFloods answers true for every input, and leaves its arguments as they were: proved with no condition beyond the statement's own. -/
import Derived.Test.YtijabmpcicddbaaRows
import Derived.Test.YtijabmpcicddbaaPlaneFloodsP
import Derived.JoinedOf
import Derived.JoinedAt
import Derived.Handed
set_option linter.unusedVariables false
namespace Go.Proofs.Ytijabmpcicddbaa.PlaneFloods
open Go.Ve
theorem cells0_eq {H : Type} (d0 : DataW H) : tpv Try.prog 8 5 d0 = [.val (.int .u8 (dint d0))] := by kernel_rfl
theorem cells1_eq {H : Type} (d1 : DataW H) : tpv Try.prog 8 56 d1 = [.val (.int .u8 (dint (dsub d1 0))), .val (.int .u8 (dint (dsub d1 1))), .val (.int .u8 (dint (dsub d1 2))), .val (.int .u8 (dint (dsub d1 3)))] := by kernel_rfl
theorem cells2_eq {H : Type} (d2 : DataW H) : tpv Try.prog 8 5 d2 = [.val (.int .u8 (dint d2))] := by kernel_rfl
theorem args_eq {H : Type} (d0 : DataW H) (d1 : DataW H) (d2 : DataW H) : targs Try.prog 8 [5, 56, 5] [d0, d1, d2] = [.v (.c (.pv (.val (.int .u8 (dint d0))))), .v (.agg [.pv (.val (.int .u8 (dint (dsub d1 0)))), .pv (.val (.int .u8 (dint (dsub d1 1)))), .pv (.val (.int .u8 (dint (dsub d1 2)))), .pv (.val (.int .u8 (dint (dsub d1 3))))]), .v (.c (.pv (.val (.int .u8 (dint d2)))))] := by kernel_rfl
theorem params : Try.f6.params.toList = [5, 56, 5] := by kernel_rfl
set_option maxRecDepth 100000 in
theorem contract (H : Type) (enc : TypeId × Value → H) (W : World) (base : Nat) (args : Array Value) (ds gs : List (DataW H)) (before : List MemPlace)
    (hval : ∀ (j : Nat) t v, Try.f6.params[j]? = some t → args[j]? = some v → Value.okWide Try.prog W .any base t v)
    (hW : DataW.Whole enc Try.prog Try.f6.params.toList Rows.planeFloodsSpec.vars false W args.toList ds gs before) :
    Calls Try.prog 6 args W fun e W' => ∃ v, e = .returned v ∧ Rows.planeFloodsSpec.post enc Try.prog Try.f6 false true false false W args v W' := by
  refine gate (P := Try.prog) (f := 6) (fn := Try.f6) (s := Rows.planeFloodsSpec) (n := 8) (tb := 4) (by kernel_rfl) laid (by kernel_rfl) (by kernel_rfl) (by kernel_rfl) rfl (fun ds hl => ?_) (fun b p hb => by cases hb) hval hW fun _ hl hok => ⟨_, [], call_ok, fun k => ?_⟩
  · rw [params] at hl
    match ds, hl with
    | [d0, d1, d2], _ => rfl
  · rw [params] at hl hok ⊢
    match ds, hl, hok with
    | [d0, d1, d2], _, hok =>
      obtain ⟨hp0, hp1, hp2, _⟩ := hok
      rw [cells0_eq] at hp0
      rw [cells1_eq] at hp1
      rw [cells2_eq] at hp2
      rw [args_eq]
      exact (law_eq (dint d0) (dint (dsub d1 0)) (dint (dsub d1 1)) (dint (dsub d1 2)) (dint (dsub d1 3)) (dint d2) k).trans (main (dint d0) (dint (dsub d1 0)) (dint (dsub d1 1)) (dint (dsub d1 2)) (dint (dsub d1 3)) (dint d2) (hp0 _ (.head _)) (hp1 _ (.head _)) (hp1 _ (.tail _ (.head _))) (hp1 _ (.tail _ (.tail _ (.head _)))) (hp1 _ (.tail _ (.tail _ (.tail _ (.head _))))) (hp2 _ (.head _)) _ _)
set_option maxRecDepth 100000 in
theorem lifted (os : Os) (started : os.Started) (H : Type) (enc : TypeId × Value → H) :
    ReturnsInHanded {} Try.checked os 6 .any (Rows.planeFloodsSpec.pre6 enc Try.prog Try.f6 Rows.planeFloodsRow.domain false) (Rows.planeFloodsSpec.post enc Try.prog Try.f6 false true false false) := by
  refine returnsInHanded_of_change (C := Try.checked) (show ownKnob Try.prog.godebug = none by kernel_rfl) started (by kernel_rfl) Try.func6
    (ChangeSpec.witness6 (enc := enc) (C := Try.checked) false ⟨#[], #[.int .u8 0, .agg #[.int .u8 0, .int .u8 0, .int .u8 0, .int .u8 0], .int .u8 0], []⟩ 8 (by kernel_rfl) (by kernel_rfl) (by kernel_rfl) (by kernel_rfl)) ?_
  intro W base args ds gs before hval hW _ _
  exact contract H enc W base args ds gs before hval hW
theorem proved : Rows.PlaneFloodsSaid :=
  OpenClaim.holds_of_wide 6 Try.f6 rfl rfl rfl rfl rfl rfl rfl ⟨rfl, rfl, rfl, rfl, rfl⟩ rfl rfl rfl rfl rfl (by kernel_rfl) Try.func6 (by kernel_rfl)
    (of_decide_eq_true (by kernel_rfl)) (by unfold Func.isWrapper; first | (rw [if_pos (by decide +kernel)]; kernel_rfl) | (rw [if_neg (by decide +kernel)]; exact ⟨rfl, rfl⟩))
    (fun os started H enc _ => lifted os started H enc)
end Go.Proofs.Ytijabmpcicddbaa.PlaneFloods
