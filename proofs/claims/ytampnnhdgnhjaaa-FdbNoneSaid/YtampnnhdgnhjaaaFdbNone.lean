/- FdbNone answers true for every input, and leaves its arguments as they were: proved with no condition beyond the statement's own. -/
import Derived.Test.YtampnnhdgnhjaaaRows
import Derived.Test.YtampnnhdgnhjaaaFdbNoneP
import Derived.JoinedOf
import Derived.JoinedAt
import Derived.Handed
set_option linter.unusedVariables false
namespace Go.Proofs.Ytampnnhdgnhjaaa.FdbNone
open Go.Ve
theorem ck_6_3 : ckT Try.prog 6 3 = (.int .i64 .nil) := by kernel_rfl
theorem rowk_6_3 {H : Type} (d : DataW H) (n : Nat) : RowK (.int .i64 .nil) n (fun j c => (tpv Try.prog 6 3 (delem d j)).getD c (.val undef)) := fun j _ c => by
  have h := (tpv_kinds (P := Try.prog) 6 3 (delem d j)).get c
  rw [ck_6_3] at h
  exact h
theorem ck_6_74 : ckT Try.prog 6 74 = (.int .u64 (.int .i64 (.int .i64 .nil))) := by kernel_rfl
theorem rowk_6_74 {H : Type} (d : DataW H) (n : Nat) : RowK (.int .u64 (.int .i64 (.int .i64 .nil))) n (fun j c => (tpv Try.prog 6 74 (delem d j)).getD c (.val undef)) := fun j _ c => by
  have h := (tpv_kinds (P := Try.prog) 6 74 (delem d j)).get c
  rw [ck_6_74] at h
  exact h
theorem cells0_eq {H : Type} (d0 : DataW H) : tpv Try.prog 8 87 d0 = [.val (.int .i64 (dint (dsub d0 0))), .val (.int .i64 (dint (dsub d0 1))), .val (.int .i64 (dint (dsub d0 2))), .val (.int .i64 (dint (dsub d0 3))), .val (.int .u64 (dint (dsub d0 4))), .sl (dnil (dsub d0 5)) (.int .i64 .nil) 1 (dlen (dsub d0 5)) (fun j c => (tpv Try.prog 6 3 (delem (dsub d0 5) j)).getD c (.val undef)), .sl (dnil (dsub d0 6)) (.int .u64 (.int .i64 (.int .i64 .nil))) 3 (dlen (dsub d0 6)) (fun j c => (tpv Try.prog 6 74 (delem (dsub d0 6) j)).getD c (.val undef))] := by kernel_rfl
theorem args_eq {H : Type} (d0 : DataW H) : targs Try.prog 8 [87] [d0] = [.v (.agg [.pv (.val (.int .i64 (dint (dsub d0 0)))), .pv (.val (.int .i64 (dint (dsub d0 1)))), .pv (.val (.int .i64 (dint (dsub d0 2)))), .pv (.val (.int .i64 (dint (dsub d0 3)))), .pv (.val (.int .u64 (dint (dsub d0 4)))), .pv (.sl (dnil (dsub d0 5)) (.int .i64 .nil) 1 (dlen (dsub d0 5)) (fun j c => (tpv Try.prog 6 3 (delem (dsub d0 5) j)).getD c (.val undef))), .pv (.sl (dnil (dsub d0 6)) (.int .u64 (.int .i64 (.int .i64 .nil))) 3 (dlen (dsub d0 6)) (fun j c => (tpv Try.prog 6 74 (delem (dsub d0 6) j)).getD c (.val undef)))])] := by kernel_rfl
theorem params : Try.f14.params.toList = [87] := by kernel_rfl
set_option maxRecDepth 100000 in
theorem contract (H : Type) (enc : TypeId × Value → H) (W : World) (base : Nat) (args : Array Value) (ds gs : List (DataW H)) (before : List MemPlace)
    (hval : ∀ (j : Nat) t v, Try.f14.params[j]? = some t → args[j]? = some v → Value.okWide Try.prog W .any base t v)
    (hW : DataW.Whole enc Try.prog Try.f14.params.toList Rows.fdbNoneSpec.vars false W args.toList ds gs before) :
    Calls Try.prog 14 args W fun e W' => ∃ v, e = .returned v ∧ Rows.fdbNoneSpec.post enc Try.prog Try.f14 false true false false W args v W' := by
  refine gate (P := Try.prog) (f := 14) (fn := Try.f14) (s := Rows.fdbNoneSpec) (n := 8) (tb := 4) (by kernel_rfl) laid (by kernel_rfl) (by kernel_rfl) (by kernel_rfl) rfl (fun ds hl => ?_) (fun b p hb => by cases hb) hval hW fun _ hl hok => ⟨_, [], call_ok, fun k => ?_⟩
  · rw [params] at hl
    match ds, hl with
    | [d0], _ => rfl
  · rw [params] at hl hok ⊢
    match ds, hl, hok with
    | [d0], _, hok =>
      obtain ⟨hp0, _⟩ := hok
      rw [cells0_eq] at hp0
      rw [args_eq]
      exact (law_eq (dint (dsub d0 0)) (dint (dsub d0 1)) (dint (dsub d0 2)) (dint (dsub d0 3)) (dint (dsub d0 4)) (dnil (dsub d0 5)) (dlen (dsub d0 5)) (fun j c => (tpv Try.prog 6 3 (delem (dsub d0 5) j)).getD c (.val undef)) (dnil (dsub d0 6)) (dlen (dsub d0 6)) (fun j c => (tpv Try.prog 6 74 (delem (dsub d0 6) j)).getD c (.val undef)) k).trans (main (dint (dsub d0 0)) (dint (dsub d0 1)) (dint (dsub d0 2)) (dint (dsub d0 3)) (dint (dsub d0 4)) (dnil (dsub d0 5)) (dlen (dsub d0 5)) (fun j c => (tpv Try.prog 6 3 (delem (dsub d0 5) j)).getD c (.val undef)) (dnil (dsub d0 6)) (dlen (dsub d0 6)) (fun j c => (tpv Try.prog 6 74 (delem (dsub d0 6) j)).getD c (.val undef)) (hp0 _ (.head _)) (hp0 _ (.tail _ (.head _))) (hp0 _ (.tail _ (.tail _ (.head _)))) (hp0 _ (.tail _ (.tail _ (.tail _ (.head _))))) (hp0 _ (.tail _ (.tail _ (.tail _ (.tail _ (.head _)))))) (hp0 _ (.tail _ (.tail _ (.tail _ (.tail _ (.tail _ (.head _))))))) (rowk_6_3 _ _) (hp0 _ (.tail _ (.tail _ (.tail _ (.tail _ (.tail _ (.tail _ (.head _)))))))) (rowk_6_74 _ _) _)
set_option maxRecDepth 100000 in
theorem lifted (os : Os) (started : os.Started) (H : Type) (enc : TypeId × Value → H) :
    ReturnsInHanded {} Try.checked os 14 .any (Rows.fdbNoneSpec.pre6 enc Try.prog Try.f14 Rows.fdbNoneRow.domain false) (Rows.fdbNoneSpec.post enc Try.prog Try.f14 false true false false) := by
  refine returnsInHanded_of_change (C := Try.checked) (show ownKnob Try.prog.godebug = none by kernel_rfl) started (by kernel_rfl) Try.func14
    (ChangeSpec.witness6 (enc := enc) (C := Try.checked) false ⟨#[], #[.agg #[.int .i64 0, .int .i64 0, .int .i64 0, .int .i64 0, .int .u64 0, .slice none 0 0, .slice none 0 0]], []⟩ 8 (by kernel_rfl) (by kernel_rfl) (by kernel_rfl) (by kernel_rfl)) ?_
  intro W base args ds gs before hval hW _ _
  exact contract H enc W base args ds gs before hval hW
theorem proved : Rows.FdbNoneSaid :=
  OpenClaim.holds_of_wide 14 Try.f14 rfl rfl rfl rfl rfl rfl rfl ⟨rfl, rfl, rfl, rfl, rfl⟩ rfl rfl rfl rfl rfl (by kernel_rfl) Try.func14 (by kernel_rfl)
    (of_decide_eq_true (by kernel_rfl)) (by unfold Func.isWrapper; first | (rw [if_pos (by decide +kernel)]; kernel_rfl) | (rw [if_neg (by decide +kernel)]; exact ⟨rfl, rfl⟩))
    (fun os started H enc _ => lifted os started H enc)
end Go.Proofs.Ytampnnhdgnhjaaa.FdbNone
