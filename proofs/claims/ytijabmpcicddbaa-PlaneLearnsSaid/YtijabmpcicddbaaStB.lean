/- A static laid in the table's map: what the operation comes to. -/
import Derived.Test.YtijabmpcicddbaaStA
import Derived.Test.YtijabmpcicddbaaSeat
import Derived.Test.YtijabmpcicddbaaVe35
set_option linter.unusedVariables false
set_option linter.unusedSimpArgs false
namespace Go.Proofs.Ytijabmpcicddbaa.Sta
open Go.Ve Go.Proofs
def kz : List Value := [.int .i64 0, .int .u64 0]
def vcz : CK := .int .i64 .nil
/-- an entry of the map -/
def ER (p : List PV × List PV) (e : MapEntry) : Prop := ∃ v m q : Int, p = ([.val (.int .i64 v), .val (.int .u64 m)], [.val (.int .i64 q)]) ∧ e.key = .agg #[.int .i64 v, .int .u64 m] ∧ e.val = .int .i64 q
theorem ER.me {E : Env} {p : List PV × List PV} {e : MapEntry} (h : ER p e) : ME E kz true vcz 1 false p e := by
  obtain ⟨v, m, q, rfl, h1, h2⟩ := h
  refine ⟨rfl, rfl, fun c hc => ?_, ?_, ?_⟩
  · have : c = 0 := by simp at hc; omega
    subst this
    exact ⟨q, rfl⟩
  · rw [h1]
    exact ⟨_, rfl, .cons ⟨rfl, rfl⟩ (.cons ⟨rfl, rfl⟩ .nil)⟩
  · rw [h2]
    exact ⟨_, rfl, ⟨rfl, rfl⟩⟩
theorem run_upd (w : World) (mb : Nat) (es : Array MapEntry) (cl : Nat) (l : MapL) (hb : w.heap[mb]? = some (.map es cl)) (hl : RL ER l es.toList) (hs : Stm es cl) (v m q : Int) :
    ∃ es' cl', (Instr.mapUpdate 106 (.map (some mb)) (.agg #[.int .i64 v, .int .u64 m]) (.int .i64 q)).run Try.prog w = .ok () { w with heap := w.heap.setIfInBounds mb (.map es' cl') } ∧ RL ER (mput l [.val (.int .i64 v), .val (.int .u64 m)] [.val (.int .i64 q)]) es'.toList ∧ Stm es' cl' := by
  have hme : ER ([.val (.int .i64 v), .val (.int .u64 m)], [.val (.int .i64 q)]) ⟨.agg #[.int .i64 v, .int .u64 m], .int .i64 q, cl⟩ := ⟨v, m, q, rfl, rfl, rfl⟩
  obtain ⟨E, hEw⟩ : ∃ E : Env, E.w = w := ⟨⟨fun _ => mb, fun _ => none, fun _ => False, w⟩, rfl⟩
  subst hEw
  have hl' : RL (ME E kz true vcz 1 false) l es.toList := hl.mono fun _ _ h => h.me
  have hix : ∀ kd, tt 111 = some kd → kd.zero = kz → Ve.isAgg kd.k = true → IX E kd [.val (.int .i64 v), .val (.int .u64 m)] (.agg #[.int .i64 v, .int .u64 m]) := fun kd _ hz ha => by
    refine ⟨by rw [hz]; rfl, ?_⟩
    rw [ha]
    exact ⟨_, rfl, .cons ⟨rfl, rfl⟩ (.cons ⟨rfl, rfl⟩ .nil)⟩
  obtain ⟨kd, hkd⟩ : ∃ kd, tt 111 = some kd := ⟨_, rfl⟩
  have hz : kd.zero = kz := by
    have : (tt 111).map (·.zero) = some kz := by kernel_rfl
    rw [hkd] at this; exact Option.some.inj this
  have ha : Ve.isAgg kd.k = true := by
    have : (tt 111).map (fun d => Ve.isAgg d.k) = some true := by kernel_rfl
    rw [hkd] at this; exact Option.some.inj this
  obtain ⟨⟨rr, hf, hF⟩, hck, hst⟩ := key_search ttOk eqOk.1 eqOk.2 hkd (by kernel_rfl) (hix kd hkd hz ha) (kz := kz) (by rw [hz]; rfl) (ka := true) ha.symm hl'
  have hd := Try.underlying106
  rcases hF with ⟨_, rfl, hput⟩ | ⟨_, j, p, e, rfl, hp, he, _, hkey, hput⟩
  · refine ⟨es.push { key := .agg #[.int .i64 v, .int .u64 m], val := .int .i64 q, born := cl }, cl + 1, ?_, ?_, hs.push _ _⟩
    · simp [Instr.mapUpdate, Go.run_underlying hd, run_getMap hb, hck, hf, MapKept.run_setObj_map _ hb]
    · rw [hput, Array.toList_push]
      exact hl.append (.cons hme .nil)
  · have hej : es[j]? = some e := by rw [← Array.getElem?_toList]; exact he
    refine ⟨es.modify j fun e => { e with key := .agg #[.int .i64 v, .int .u64 m], val := .int .i64 q }, cl, ?_, ?_, hs.modify _ _ _⟩
    · have hst' := hst E.w
      simp [Instr.mapUpdate, Go.run_underlying hd, run_getMap hb, hck, hf, hej, hkey, hst', MapKept.run_setObj_map _ hb]
    · rw [hput, Array.toList_modify]
      exact hl.modify fun b hb => ⟨v, m, q, rfl, rfl, rfl⟩
end Go.Proofs.Ytijabmpcicddbaa.Sta
