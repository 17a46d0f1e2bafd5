/- FdbPlays answers true for every input, and leaves its arguments as they were: proved with no condition beyond the statement's own. -/
import Derived.Test.YtampnnhdgnhjaaaRows
import Derived.Test.YtampnnhdgnhjaaaFdbPlaysP
import Derived.JoinedOf
import Derived.JoinedAt
import Derived.Handed
set_option linter.unusedVariables false
namespace Go.Proofs.Ytampnnhdgnhjaaa.FdbPlays
open Go.Ve
theorem ck_7_87 : ckT Try.prog 7 87 = (.int .i64 (.int .i64 (.int .i64 (.int .i64 (.int .u64 (.sl (.int .i64 .nil) 1 (.sl (.int .u64 (.int .i64 (.int .i64 .nil))) 3 .nil))))))) := by kernel_rfl
theorem rowk_7_87 {H : Type} (d : DataW H) (n : Nat) : RowK (.int .i64 (.int .i64 (.int .i64 (.int .i64 (.int .u64 (.sl (.int .i64 .nil) 1 (.sl (.int .u64 (.int .i64 (.int .i64 .nil))) 3 .nil))))))) n (fun j c => (tpv Try.prog 7 87 (delem d j)).getD c (.val undef)) := fun j _ c => by
  have h := (tpv_kinds (P := Try.prog) 7 87 (delem d j)).get c
  rw [ck_7_87] at h
  exact h
theorem cells0_eq {H : Type} (d0 : DataW H) : tpv Try.prog 8 78 d0 = [.sl (dnil d0) (.int .i64 (.int .i64 (.int .i64 (.int .i64 (.int .u64 (.sl (.int .i64 .nil) 1 (.sl (.int .u64 (.int .i64 (.int .i64 .nil))) 3 .nil))))))) 7 (dlen d0) (fun j c => (tpv Try.prog 7 87 (delem d0 j)).getD c (.val undef))] := by kernel_rfl
theorem args_eq {H : Type} (d0 : DataW H) : targs Try.prog 8 [78] [d0] = [.v (.c (.pv (.sl (dnil d0) (.int .i64 (.int .i64 (.int .i64 (.int .i64 (.int .u64 (.sl (.int .i64 .nil) 1 (.sl (.int .u64 (.int .i64 (.int .i64 .nil))) 3 .nil))))))) 7 (dlen d0) (fun j c => (tpv Try.prog 7 87 (delem d0 j)).getD c (.val undef)))))] := by kernel_rfl
theorem params : Try.f13.params.toList = [78] := by kernel_rfl
set_option maxRecDepth 100000 in
theorem contract (H : Type) (enc : TypeId × Value → H) (W : World) (base : Nat) (args : Array Value) (ds gs : List (DataW H)) (before : List MemPlace)
    (hval : ∀ (j : Nat) t v, Try.f13.params[j]? = some t → args[j]? = some v → Value.okWide Try.prog W .any base t v)
    (hW : DataW.Whole enc Try.prog Try.f13.params.toList Rows.fdbPlaysSpec.vars false W args.toList ds gs before) :
    Calls Try.prog 13 args W fun e W' => ∃ v, e = .returned v ∧ Rows.fdbPlaysSpec.post enc Try.prog Try.f13 false true false false W args v W' := by
  refine gate (P := Try.prog) (f := 13) (fn := Try.f13) (s := Rows.fdbPlaysSpec) (n := 8) (tb := 4) (by kernel_rfl) laid (by kernel_rfl) (by kernel_rfl) (by kernel_rfl) rfl (fun ds hl => ?_) (fun b p hb => by cases hb) hval hW fun _ hl hok => ⟨_, [], call_ok, fun k => ?_⟩
  · rw [params] at hl
    match ds, hl with
    | [d0], _ => rfl
  · rw [params] at hl hok ⊢
    match ds, hl, hok with
    | [d0], _, hok =>
      obtain ⟨hp0, _⟩ := hok
      rw [cells0_eq] at hp0
      rw [args_eq]
      exact (law_eq (dnil d0) (dlen d0) (fun j c => (tpv Try.prog 7 87 (delem d0 j)).getD c (.val undef)) k).trans (main (dnil d0) (dlen d0) (fun j c => (tpv Try.prog 7 87 (delem d0 j)).getD c (.val undef)) (hp0 _ (.head _)) (rowk_7_87 _ _) _ _)
set_option maxRecDepth 100000 in
theorem lifted (os : Os) (started : os.Started) (H : Type) (enc : TypeId × Value → H) :
    ReturnsInHanded {} Try.checked os 13 .any (Rows.fdbPlaysSpec.pre6 enc Try.prog Try.f13 Rows.fdbPlaysRow.domain false) (Rows.fdbPlaysSpec.post enc Try.prog Try.f13 false true false false) := by
  refine returnsInHanded_of_change (C := Try.checked) (show ownKnob Try.prog.godebug = none by kernel_rfl) started (by kernel_rfl) Try.func13
    (ChangeSpec.witness6 (enc := enc) (C := Try.checked) false ⟨#[], #[.slice none 0 0], []⟩ 8 (by kernel_rfl) (by kernel_rfl) (by kernel_rfl) (by kernel_rfl)) ?_
  intro W base args ds gs before hval hW _ _
  exact contract H enc W base args ds gs before hval hW
theorem proved : Rows.FdbPlaysSaid :=
  OpenClaim.holds_of_wide 13 Try.f13 rfl rfl rfl rfl rfl rfl rfl ⟨rfl, rfl, rfl, rfl, rfl⟩ rfl rfl rfl rfl rfl (by kernel_rfl) Try.func13 (by kernel_rfl)
    (of_decide_eq_true (by kernel_rfl)) (by unfold Func.isWrapper; first | (rw [if_pos (by decide +kernel)]; kernel_rfl) | (rw [if_neg (by decide +kernel)]; exact ⟨rfl, rfl⟩))
    (fun os started H enc _ => lifted os started H enc)
end Go.Proofs.Ytampnnhdgnhjaaa.FdbPlays
