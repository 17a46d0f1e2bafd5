/- PlaneLearns answers true for every input, and leaves its arguments as they were: proved with no condition beyond the statement's own. -/
import Derived.Test.YtijabmpcicddbaaRows
import Derived.Test.YtijabmpcicddbaaPlaneLearnsP
import Derived.JoinedOf
import Derived.JoinedAt
import Derived.Handed
set_option linter.unusedVariables false
namespace Go.Proofs.Ytijabmpcicddbaa.PlaneLearns
open Go.Ve
theorem ck_6_51 : ckT Try.prog 6 51 = (.bool (.int .u32 (.int .i64 .nil))) := by kernel_rfl
theorem rowk_6_51 {H : Type} (d : DataW H) (n : Nat) : RowK (.bool (.int .u32 (.int .i64 .nil))) n (fun j c => (tpv Try.prog 6 51 (delem d j)).getD c (.val undef)) := fun j _ c => by
  have h := (tpv_kinds (P := Try.prog) 6 51 (delem d j)).get c
  rw [ck_6_51] at h
  exact h
theorem ck_6_83 : ckT Try.prog 6 83 = (.int .i64 (.int .u8 (.int .u8 .nil))) := by kernel_rfl
theorem rowk_6_83 {H : Type} (d : DataW H) (n : Nat) : RowK (.int .i64 (.int .u8 (.int .u8 .nil))) n (fun j c => (tpv Try.prog 6 83 (delem d j)).getD c (.val undef)) := fun j _ c => by
  have h := (tpv_kinds (P := Try.prog) 6 83 (delem d j)).get c
  rw [ck_6_83] at h
  exact h
theorem ck_6_87 : ckT Try.prog 6 87 = (.int .u64 (.int .i64 (.int .i64 .nil))) := by kernel_rfl
theorem rowk_6_87 {H : Type} (d : DataW H) (n : Nat) : RowK (.int .u64 (.int .i64 (.int .i64 .nil))) n (fun j c => (tpv Try.prog 6 87 (delem d j)).getD c (.val undef)) := fun j _ c => by
  have h := (tpv_kinds (P := Try.prog) 6 87 (delem d j)).get c
  rw [ck_6_87] at h
  exact h
theorem cells0_eq {H : Type} (d0 : DataW H) : tpv Try.prog 8 26 d0 = [.val (.int .i64 (dint (dsub d0 0))), .val (.int .i64 (dint (dsub d0 1))), .val (.int .i64 (dint (dsub d0 2))), .sl (dnil (dsub d0 3)) (.bool (.int .u32 (.int .i64 .nil))) 3 (dlen (dsub d0 3)) (fun j c => (tpv Try.prog 6 51 (delem (dsub d0 3) j)).getD c (.val undef)), .sl (dnil (dsub d0 4)) (.int .i64 (.int .u8 (.int .u8 .nil))) 3 (dlen (dsub d0 4)) (fun j c => (tpv Try.prog 6 83 (delem (dsub d0 4) j)).getD c (.val undef)), .sl (dnil (dsub d0 5)) (.int .u64 (.int .i64 (.int .i64 .nil))) 3 (dlen (dsub d0 5)) (fun j c => (tpv Try.prog 6 87 (delem (dsub d0 5) j)).getD c (.val undef))] := by kernel_rfl
theorem ck_5_5 : ckT Try.prog 5 5 = (.int .u8 .nil) := by kernel_rfl
theorem rowk_5_5 {H : Type} (d : DataW H) (n : Nat) : RowK (.int .u8 .nil) n (fun j c => (tpv Try.prog 5 5 (delem d j)).getD c (.val undef)) := fun j _ c => by
  have h := (tpv_kinds (P := Try.prog) 5 5 (delem d j)).get c
  rw [ck_5_5] at h
  exact h
theorem ck_6_3 : ckT Try.prog 6 3 = (.int .i64 .nil) := by kernel_rfl
theorem rowk_6_3 {H : Type} (d : DataW H) (n : Nat) : RowK (.int .i64 .nil) n (fun j c => (tpv Try.prog 6 3 (delem d j)).getD c (.val undef)) := fun j _ c => by
  have h := (tpv_kinds (P := Try.prog) 6 3 (delem d j)).get c
  rw [ck_6_3] at h
  exact h
theorem cells1_eq {H : Type} (d1 : DataW H) : tpv Try.prog 8 66 d1 = [.val (.int .i64 (dint (dsub d1 0))), .val (.int .i64 (dint (dsub d1 1))), .val (.int .u64 (dint (dsub (dsub d1 2) 0))), .val (.int .u64 (dint (dsub (dsub d1 2) 1))), .val (.bool (dbool (dsub (dsub d1 2) 2))), .val (.int .i64 (dint (dsub (dsub d1 2) 3))), .val (.int .i64 (dint (dsub (dsub d1 2) 4))), .val (.int .i64 (dint (dsub (dsub d1 2) 5))), .sl (dnil (dsub (dsub d1 2) 6)) (.int .u8 .nil) 1 (dlen (dsub (dsub d1 2) 6)) (fun j c => (tpv Try.prog 5 5 (delem (dsub (dsub d1 2) 6) j)).getD c (.val undef)), .sl (dnil (dsub d1 3)) (.int .i64 .nil) 1 (dlen (dsub d1 3)) (fun j c => (tpv Try.prog 6 3 (delem (dsub d1 3) j)).getD c (.val undef)), .sl (dnil (dsub d1 4)) (.int .i64 .nil) 1 (dlen (dsub d1 4)) (fun j c => (tpv Try.prog 6 3 (delem (dsub d1 4) j)).getD c (.val undef))] := by kernel_rfl
theorem args_eq {H : Type} (d0 : DataW H) (d1 : DataW H) : targs Try.prog 8 [26, 66] [d0, d1] = [.v (.agg [.pv (.val (.int .i64 (dint (dsub d0 0)))), .pv (.val (.int .i64 (dint (dsub d0 1)))), .pv (.val (.int .i64 (dint (dsub d0 2)))), .pv (.sl (dnil (dsub d0 3)) (.bool (.int .u32 (.int .i64 .nil))) 3 (dlen (dsub d0 3)) (fun j c => (tpv Try.prog 6 51 (delem (dsub d0 3) j)).getD c (.val undef))), .pv (.sl (dnil (dsub d0 4)) (.int .i64 (.int .u8 (.int .u8 .nil))) 3 (dlen (dsub d0 4)) (fun j c => (tpv Try.prog 6 83 (delem (dsub d0 4) j)).getD c (.val undef))), .pv (.sl (dnil (dsub d0 5)) (.int .u64 (.int .i64 (.int .i64 .nil))) 3 (dlen (dsub d0 5)) (fun j c => (tpv Try.prog 6 87 (delem (dsub d0 5) j)).getD c (.val undef)))]), .v (.agg [.pv (.val (.int .i64 (dint (dsub d1 0)))), .pv (.val (.int .i64 (dint (dsub d1 1)))), .pv (.val (.int .u64 (dint (dsub (dsub d1 2) 0)))), .pv (.val (.int .u64 (dint (dsub (dsub d1 2) 1)))), .pv (.val (.bool (dbool (dsub (dsub d1 2) 2)))), .pv (.val (.int .i64 (dint (dsub (dsub d1 2) 3)))), .pv (.val (.int .i64 (dint (dsub (dsub d1 2) 4)))), .pv (.val (.int .i64 (dint (dsub (dsub d1 2) 5)))), .pv (.sl (dnil (dsub (dsub d1 2) 6)) (.int .u8 .nil) 1 (dlen (dsub (dsub d1 2) 6)) (fun j c => (tpv Try.prog 5 5 (delem (dsub (dsub d1 2) 6) j)).getD c (.val undef))), .pv (.sl (dnil (dsub d1 3)) (.int .i64 .nil) 1 (dlen (dsub d1 3)) (fun j c => (tpv Try.prog 6 3 (delem (dsub d1 3) j)).getD c (.val undef))), .pv (.sl (dnil (dsub d1 4)) (.int .i64 .nil) 1 (dlen (dsub d1 4)) (fun j c => (tpv Try.prog 6 3 (delem (dsub d1 4) j)).getD c (.val undef)))])] := by kernel_rfl
theorem params : Try.f7.params.toList = [26, 66] := by kernel_rfl
set_option maxRecDepth 100000 in
theorem contract (H : Type) (enc : TypeId × Value → H) (W : World) (base : Nat) (args : Array Value) (ds gs : List (DataW H)) (before : List MemPlace)
    (hval : ∀ (j : Nat) t v, Try.f7.params[j]? = some t → args[j]? = some v → Value.okWide Try.prog W .any base t v)
    (hW : DataW.Whole enc Try.prog Try.f7.params.toList Rows.planeLearnsSpec.vars false W args.toList ds gs before) :
    Calls Try.prog 7 args W fun e W' => ∃ v, e = .returned v ∧ Rows.planeLearnsSpec.post enc Try.prog Try.f7 false true false false W args v W' := by
  refine gate (P := Try.prog) (f := 7) (fn := Try.f7) (s := Rows.planeLearnsSpec) (n := 8) (tb := 4) (by kernel_rfl) laid (by kernel_rfl) (by kernel_rfl) (by kernel_rfl) rfl (fun ds hl => ?_) (fun b p hb => by cases hb) hval hW fun _ hl hok => ⟨_, [], call_ok, fun k => ?_⟩
  · rw [params] at hl
    match ds, hl with
    | [d0, d1], _ => rfl
  · rw [params] at hl hok ⊢
    match ds, hl, hok with
    | [d0, d1], _, hok =>
      obtain ⟨hp0, hp1, _⟩ := hok
      rw [cells0_eq] at hp0
      rw [cells1_eq] at hp1
      rw [args_eq]
      exact (law_eq (dint (dsub d0 0)) (dint (dsub d0 1)) (dint (dsub d0 2)) (dnil (dsub d0 3)) (dlen (dsub d0 3)) (fun j c => (tpv Try.prog 6 51 (delem (dsub d0 3) j)).getD c (.val undef)) (dnil (dsub d0 4)) (dlen (dsub d0 4)) (fun j c => (tpv Try.prog 6 83 (delem (dsub d0 4) j)).getD c (.val undef)) (dnil (dsub d0 5)) (dlen (dsub d0 5)) (fun j c => (tpv Try.prog 6 87 (delem (dsub d0 5) j)).getD c (.val undef)) (dint (dsub d1 0)) (dint (dsub d1 1)) (dint (dsub (dsub d1 2) 0)) (dint (dsub (dsub d1 2) 1)) (dbool (dsub (dsub d1 2) 2)) (dint (dsub (dsub d1 2) 3)) (dint (dsub (dsub d1 2) 4)) (dint (dsub (dsub d1 2) 5)) (dnil (dsub (dsub d1 2) 6)) (dlen (dsub (dsub d1 2) 6)) (fun j c => (tpv Try.prog 5 5 (delem (dsub (dsub d1 2) 6) j)).getD c (.val undef)) (dnil (dsub d1 3)) (dlen (dsub d1 3)) (fun j c => (tpv Try.prog 6 3 (delem (dsub d1 3) j)).getD c (.val undef)) (dnil (dsub d1 4)) (dlen (dsub d1 4)) (fun j c => (tpv Try.prog 6 3 (delem (dsub d1 4) j)).getD c (.val undef)) k).trans (main (dint (dsub d0 0)) (dint (dsub d0 1)) (dint (dsub d0 2)) (dnil (dsub d0 3)) (dlen (dsub d0 3)) (fun j c => (tpv Try.prog 6 51 (delem (dsub d0 3) j)).getD c (.val undef)) (dnil (dsub d0 4)) (dlen (dsub d0 4)) (fun j c => (tpv Try.prog 6 83 (delem (dsub d0 4) j)).getD c (.val undef)) (dnil (dsub d0 5)) (dlen (dsub d0 5)) (fun j c => (tpv Try.prog 6 87 (delem (dsub d0 5) j)).getD c (.val undef)) (dint (dsub d1 0)) (dint (dsub d1 1)) (dint (dsub (dsub d1 2) 0)) (dint (dsub (dsub d1 2) 1)) (dbool (dsub (dsub d1 2) 2)) (dint (dsub (dsub d1 2) 3)) (dint (dsub (dsub d1 2) 4)) (dint (dsub (dsub d1 2) 5)) (dnil (dsub (dsub d1 2) 6)) (dlen (dsub (dsub d1 2) 6)) (fun j c => (tpv Try.prog 5 5 (delem (dsub (dsub d1 2) 6) j)).getD c (.val undef)) (dnil (dsub d1 3)) (dlen (dsub d1 3)) (fun j c => (tpv Try.prog 6 3 (delem (dsub d1 3) j)).getD c (.val undef)) (dnil (dsub d1 4)) (dlen (dsub d1 4)) (fun j c => (tpv Try.prog 6 3 (delem (dsub d1 4) j)).getD c (.val undef)) (hp0 _ (.head _)) (hp0 _ (.tail _ (.head _))) (hp0 _ (.tail _ (.tail _ (.head _)))) (hp0 _ (.tail _ (.tail _ (.tail _ (.head _))))) (rowk_6_51 _ _) (hp0 _ (.tail _ (.tail _ (.tail _ (.tail _ (.head _)))))) (rowk_6_83 _ _) (hp0 _ (.tail _ (.tail _ (.tail _ (.tail _ (.tail _ (.head _))))))) (rowk_6_87 _ _) (hp1 _ (.head _)) (hp1 _ (.tail _ (.head _))) (hp1 _ (.tail _ (.tail _ (.head _)))) (hp1 _ (.tail _ (.tail _ (.tail _ (.head _))))) (hp1 _ (.tail _ (.tail _ (.tail _ (.tail _ (.tail _ (.head _))))))) (hp1 _ (.tail _ (.tail _ (.tail _ (.tail _ (.tail _ (.tail _ (.head _)))))))) (hp1 _ (.tail _ (.tail _ (.tail _ (.tail _ (.tail _ (.tail _ (.tail _ (.head _))))))))) (hp1 _ (.tail _ (.tail _ (.tail _ (.tail _ (.tail _ (.tail _ (.tail _ (.tail _ (.head _)))))))))) (rowk_5_5 _ _) (hp1 _ (.tail _ (.tail _ (.tail _ (.tail _ (.tail _ (.tail _ (.tail _ (.tail _ (.tail _ (.head _))))))))))) (rowk_6_3 _ _) (hp1 _ (.tail _ (.tail _ (.tail _ (.tail _ (.tail _ (.tail _ (.tail _ (.tail _ (.tail _ (.tail _ (.head _)))))))))))) (rowk_6_3 _ _) _ _)
set_option maxRecDepth 100000 in
theorem lifted (os : Os) (started : os.Started) (H : Type) (enc : TypeId × Value → H) :
    ReturnsInHanded {} Try.checked os 7 .any (Rows.planeLearnsSpec.pre6 enc Try.prog Try.f7 Rows.planeLearnsRow.domain false) (Rows.planeLearnsSpec.post enc Try.prog Try.f7 false true false false) := by
  refine returnsInHanded_of_change (C := Try.checked) (show ownKnob Try.prog.godebug = none by kernel_rfl) started (by kernel_rfl) Try.func7
    (ChangeSpec.witness6 (enc := enc) (C := Try.checked) false ⟨#[], #[.agg #[.int .i64 0, .int .i64 0, .int .i64 0, .slice none 0 0, .slice none 0 0, .slice none 0 0], .agg #[.int .i64 0, .int .i64 0, .int .u64 0, .int .u64 0, .bool false, .int .i64 0, .int .i64 0, .int .i64 0, .slice none 0 0, .slice none 0 0, .slice none 0 0]], []⟩ 8 (by kernel_rfl) (by kernel_rfl) (by kernel_rfl) (by kernel_rfl)) ?_
  intro W base args ds gs before hval hW _ _
  exact contract H enc W base args ds gs before hval hW
theorem proved : Rows.PlaneLearnsSaid :=
  OpenClaim.holds_of_wide 7 Try.f7 rfl rfl rfl rfl rfl rfl rfl ⟨rfl, rfl, rfl, rfl, rfl⟩ rfl rfl rfl rfl rfl (by kernel_rfl) Try.func7 (by kernel_rfl)
    (of_decide_eq_true (by kernel_rfl)) (by unfold Func.isWrapper; first | (rw [if_pos (by decide +kernel)]; kernel_rfl) | (rw [if_neg (by decide +kernel)]; exact ⟨rfl, rfl⟩))
    (fun os started H enc _ => lifted os started H enc)
end Go.Proofs.Ytijabmpcicddbaa.PlaneLearns
