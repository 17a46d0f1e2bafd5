/- The evaluator ("VE"): functions of Go's library that are told by contracts of the kit: strings.Join, strings.Split. -/
import Derived.Test.YtijabmpcicddbaaVe26
import Derived.Below
import Derived.Lib.Split
import Derived.Lib.SplitLaws
import Derived.Lib.Bytealg
import Derived.Laws.World
import Derived.Lib.Join
set_option linter.unusedVariables false
set_option linter.unusedSimpArgs false
namespace Go.Ve
open Go.RowKit
variable {P : Program}
theorem quiet_env {E : Env} {w' : World} (hE : E.ok) (hn : ∀ id, E.H id = none) (hb : Below E.w.heap.size E.w w') : (⟨E.ι, E.H, E.D, w'⟩ : Env).ok ∧ EvM 0 E ⟨E.ι, E.H, E.D, w'⟩ := by
  have none' : ∀ id o, E.H id = some o → False := fun id o h => by rw [hn] at h; cases h
  refine ⟨{ obj := fun id o h => (none' id o h).elim, inj := fun i j oi oj h => (none' i oi h).elim, out := fun i o h => (none' i o h).elim, dom := fun b h => Nat.lt_of_lt_of_le (hE.dom b h) hb.size, gl := hE.gl.mono (fun b ⟨h1, h2, h3⟩ => ⟨Nat.lt_of_lt_of_le h1 hb.size, h2, h3⟩) fun b ⟨h1, _, _⟩ => hb.block b h1 }, ?_⟩
  exact {
    s := fun b ⟨h1, h2, h3⟩ => ⟨Nat.lt_of_lt_of_le h1 hb.size, h2, h3⟩
    c := fun b ⟨h1, _, _⟩ => hb.block b h1
    D := rfl
    dom := fun b h => hb.block b (hE.dom b h)
    os := hb.os
    tape := hb.tape
    output := hb.output
    size := hb.size
    i := fun id h => absurd h (Nat.not_lt_zero id)
    h := fun id h => absurd h (Nat.not_lt_zero id)
    z := fun id h => absurd h (Nat.not_lt_zero id) }
/-- a slice of texts, in memory -/
theorem str_cells {E : Env} {nl : Bool} {n : Nat} {row : Nat → Nat → PV} {x : Value} (h : RC E (.pv (.sl nl (.str .nil) 1 n row)) x) :
    ∃ ad cap, x = .slice ad n cap ∧ n ≤ cap ∧ (0 < n → ∃ b o, ad = some ⟨b, o, none⟩ ∧ b < E.w.heap.size ∧ ∀ j, j < n → E.w.cell? ⟨b, o + j, none⟩ = some (.string (textOf (row j 0)))) := by
  obtain ⟨hk, ad, cap, rfl, hc, _, _, hr⟩ := h
  refine ⟨ad, cap, rfl, hc, fun hn => ?_⟩
  obtain ⟨b, o, rfl, hS, hcell⟩ := hr hn
  refine ⟨b, o, rfl, hS.1, fun j hj => ?_⟩
  obtain ⟨y, hy, hp⟩ := hcell j hj 0 (by omega)
  obtain ⟨m, hm⟩ : ∃ m, row j 0 = .val (.string m) := hk j hj 0
  rw [hm] at hp ⊢
  obtain ⟨rfl, _⟩ := hp
  rw [show o + j = o + j * 1 + 0 by omega, hy]
  rfl
def rowL (n : Nat) (row : Nat → Nat → PV) : List ByteArray := (List.range n).map fun j => textOf (row j 0)
def joinS (n : Nat) (row : Nat → Nat → PV) (sep : ByteArray) : ByteArray := ⟨(Lib.join ((rowL n row).map (·.data.toList)) sep.data.toList).toArray⟩
def joinOk (n : Nat) (row : Nat → Nat → PV) (sep : ByteArray) : Bool := Nat.ble n 140737488355328 && Nat.ble (Lib.join ((rowL n row).map (·.data.toList)) sep.data.toList).length 140737488355328
def joinSm : Sm := fun args hs => match args, hs with
  | [.v (.c (.pv (.sl _ (.str .nil) 1 n row))), .v (.c (.pv (.val (.string sep))))], [] => some fun k => bif joinOk n row sep then k (.val (.string (joinS n row sep))) [] else none
  | _, _ => none
theorem join_sum {f : FuncId} (hfn : ∃ fn, P.funcs[f]? = some fn ∧ fn.body.isNone = false ∧ (fn.name == "runtime.NumGoroutine") = false)
    (h0 : ∀ (a : Option Addr) (c : Nat) (sep : ByteArray) (w : World), Calls P f #[.slice a 0 c, .string sep] w fun e w' => e = .returned (.string ⟨#[]⟩) ∧ w' = w)
    (h1 : ∀ (bk o c : Nat) (xs : List ByteArray) (sep : ByteArray) (w : World), (∀ (j : Nat) x, xs[j]? = some x → w.cell? ⟨bk, o + j, none⟩ = some (.string x)) → bk < w.heap.size → xs.length ≤ 140737488355328 → xs.length ≤ c → (Lib.join (xs.map (·.data.toList)) sep.data.toList).length ≤ 140737488355328 →
      Calls P f #[.slice (some ⟨bk, o, none⟩) xs.length c, .string sep] w fun e w' => e = .returned (.string ⟨(Lib.join (xs.map (·.data.toList)) sep.data.toList).toArray⟩) ∧ Below w.heap.size w w') : SumOk P f joinSm := by
  intro args hs G hG
  unfold joinSm at hG
  split at hG
  · rename_i nl n row sep
    injection hG with hG
    subst hG
    intro k r hg
    obtain ⟨hok, hg⟩ := cond_some hg
    refine ⟨_, _, hg, fun k' => by show (bif joinOk n row sep then _ else _) = _; rw [hok, cond_true], ⟨hfn, fun E vals hE hH hr => ?_⟩⟩
    have hn : ∀ id, E.H id = none := fun id => by rw [hH]; rfl
    cases hr with
    | cons hx hr =>
      cases hr with
      | cons hy hr =>
        cases hr
        obtain ⟨rfl, _⟩ := hy
        obtain ⟨ad, cap, rfl, hc, hcell⟩ := str_cells hx
        simp only [joinOk, Bool.and_eq_true] at hok
        have hok1 := Nat.le_of_ble_eq_true hok.1
        have hok2 := Nat.le_of_ble_eq_true hok.2
        have fin : ∀ {e : Ending} {w' : World}, e = .returned (.string (joinS n row sep)) → Below E.w.heap.size E.w w' → ∃ x E', e = .returned x ∧ E'.w = w' ∧ E'.ok ∧ (∀ id, E'.H id = ([] : List AObj)[id]?) ∧ RA E' (.val (.string (joinS n row sep))) x ∧ EvM ([] : List AObj).length E E' := by
          intro e w' he hb
          obtain ⟨q1, q2⟩ := quiet_env hE hn hb
          exact ⟨_, _, he, rfl, q1, fun id => by rw [show (⟨E.ι, E.H, E.D, w'⟩ : Env).H id = E.H id from rfl, hn]; rfl, ⟨rfl, rfl⟩, q2⟩
        by_cases h : 0 < n
        · obtain ⟨b, o, rfl, hb, hcl⟩ := hcell h
          have hl : (rowL n row).length = n := by simp [rowL]
          have := h1 b o cap (rowL n row) sep E.w (fun j x hj => by
            obtain ⟨hj1, hj2⟩ := List.getElem?_eq_some_iff.1 hj
            rw [hcl j (by omega)]
            simp [rowL] at hj2
            rw [hj2]) hb (by omega) (by omega) hok2
          rw [hl] at this
          exact Calls.mono this fun e w' ⟨he, hw⟩ => fin he hw
        · obtain rfl : n = 0 := by omega
          exact Calls.mono (h0 ad cap sep E.w) fun e w' ⟨he, hw⟩ => fin he (hw ▸ Below.refl _ _)
  · cases hG
/-! ### strings.IndexByte -/
def idxSm : Sm := fun args hs => match args, hs with
  | [.v (.c (.pv (.val (.string s)))), .v (.c (.pv (.val (.int .u8 c))))], [] => some fun k => k (.val (.int .i64 (Lib.indexByte s.data.toList c.toNat.toUInt8))) []
  | _, _ => none
theorem idx_sum {f : FuncId} (hfn : ∃ fn, P.funcs[f]? = some fn ∧ fn.body.isNone = false ∧ (fn.name == "runtime.NumGoroutine") = false)
    (h1 : ∀ (s : ByteArray) (c : Int) (w : World), Calls P f #[.string s, .int .u8 c] w fun e w' => e = .returned (.int .i64 (Lib.indexByte s.data.toList c.toNat.toUInt8)) ∧ w' = w) : SumOk P f idxSm := by
  intro args hs G hG
  unfold idxSm at hG
  split at hG
  · rename_i s c
    injection hG with hG
    subst hG
    intro k r hg
    refine ⟨_, _, hg, fun k' => rfl, ⟨hfn, fun E vals hE hH hr => ?_⟩⟩
    have hn : ∀ id, E.H id = none := fun id => by rw [hH]; rfl
    cases hr with
    | cons hx hr =>
      cases hr with
      | cons hy hr =>
        cases hr
        obtain ⟨rfl, _⟩ := hx
        obtain ⟨rfl, _⟩ := hy
        refine Calls.mono (h1 s c E.w) fun e w' ⟨he, hw⟩ => ?_
        obtain ⟨q1, q2⟩ := quiet_env hE hn (hw ▸ Below.refl E.w.heap.size E.w : Below E.w.heap.size E.w w')
        exact ⟨_, _, he, rfl, q1, fun id => by rw [show (⟨E.ι, E.H, E.D, w'⟩ : Env).H id = E.H id from rfl, hn]; rfl, ⟨rfl, rfl⟩, q2⟩
  · cases hG
/-! ### strings.Split at one byte -/
def splitL (s sep : ByteArray) : List ByteArray := Lib.splitB sep 0 (Lib.countB s sep) s
def splitN (s sep : ByteArray) : Nat := (splitL s sep).length
def splitRow (s sep : ByteArray) : Nat → Nat → PV := fun j _ => .val (.string ((splitL s sep).getD j ⟨#[]⟩))
def splitOk (s sep : ByteArray) : Bool := Nat.ble s.size 4294967280 && Nat.beq sep.size 1
/-- strings.genSplit at (s, sep, 0, -1) -/
def splitSm : Sm := fun args hs => match args, hs with
  | [.v (.c (.pv (.val (.string s)))), .v (.c (.pv (.val (.string sep)))), .v (.c (.pv (.val (.int .i64 sv)))), .v (.c (.pv (.val (.int .i64 n))))], [] => some fun k => bif (sv == 0) && ((n == -1) && splitOk s sep) then k (.c (.own 0)) [.parr false false (.str .nil) 1 (splitN s sep) (splitRow s sep)] else none
  | _, _ => none
theorem split_sum {f : FuncId} {T : TypeId} (hfn : ∃ fn, P.funcs[f]? = some fn ∧ fn.body.isNone = false ∧ (fn.name == "runtime.NumGoroutine") = false)
    (h1 : ∀ (s : ByteArray) (c : UInt8) (w : World), s.size < 4294967281 → Calls P f #[.string s, .string ⟨#[c]⟩, .int .i64 0, .int .i64 (-1)] w fun e w' =>
      e = .returned (.slice (some ⟨w.heap.size, 0, none⟩) (Lib.countB s ⟨#[c]⟩ + 1) (Lib.countB s ⟨#[c]⟩ + 1)) ∧ w' = w.alloc (.cells ((Lib.splitB ⟨#[c]⟩ 0 (Lib.countB s ⟨#[c]⟩) s).map Value.string).toArray T)) : SumOk P f splitSm := by
  intro args hs G hG
  unfold splitSm at hG
  split at hG
  · rename_i s sep sv m
    injection hG with hG
    subst hG
    intro k r hg
    obtain ⟨hok, hg⟩ := cond_some hg
    refine ⟨_, _, hg, fun k' => by show (bif (sv == 0) && ((m == -1) && splitOk s sep) then _ else _) = _; rw [hok, cond_true], ⟨hfn, fun E vals hE hH hr => ?_⟩⟩
    have hn : ∀ id, E.H id = none := fun id => by rw [hH]; rfl
    simp only [splitOk, Bool.and_eq_true, beq_iff_eq] at hok
    obtain ⟨rfl, rfl, hok⟩ := hok
    have hok1 := Nat.le_of_ble_eq_true hok.1
    have hok2 := Nat.eq_of_beq_eq_true hok.2
    obtain ⟨c, rfl⟩ : ∃ c, sep = ⟨#[c]⟩ := by
      obtain ⟨⟨l⟩⟩ := sep
      obtain ⟨c, rfl⟩ := List.length_eq_one_iff.1 (show l.length = 1 from hok2)
      exact ⟨c, rfl⟩
    cases hr with
    | cons hx hr =>
      cases hr with
      | cons hy hr =>
        cases hr with
        | cons hz hr =>
        cases hr with
        | cons ht hr =>
        cases hr
        obtain ⟨rfl, _⟩ := hx
        obtain ⟨rfl, _⟩ := hy
        obtain ⟨rfl, _⟩ := hz
        obtain ⟨rfl, _⟩ := ht
        refine Calls.mono (h1 s c E.w (by omega)) fun e w' ⟨he, hw⟩ => ?_
        have hl : splitN s ⟨#[c]⟩ = Lib.countB s ⟨#[c]⟩ + 1 := Lib.splitB_all ⟨#[c]⟩ (Nat.le_refl 1) 0 _ s rfl
        rw [← hl] at he
        generalize hcs : ((Lib.splitB ⟨#[c]⟩ 0 (Lib.countB s ⟨#[c]⟩) s).map Value.string).toArray = cs at hw
        have hsz : cs.size = splitN s ⟨#[c]⟩ := by rw [← hcs]; simp [splitN, splitL]
        have hcell : ∀ j, j < splitN s ⟨#[c]⟩ → cs[j]? = some (.string ((splitL s ⟨#[c]⟩).getD j ⟨#[]⟩)) := by
          intro j hj
          rw [← hcs]
          have hj' : j < (splitL s ⟨#[c]⟩).length := hj
          simp only [List.getElem?_toArray, List.getElem?_map]
          show (((splitL s ⟨#[c]⟩)[j]?).map Value.string) = _
          rw [List.getElem?_eq_getElem hj', List.getD_eq_getElem?_getD, List.getElem?_eq_getElem hj']
          rfl
        have hheap : w'.heap = E.w.heap.push (.cells cs T) := by rw [hw]; rfl
        have hb : Below E.w.heap.size E.w w' := by
          refine ⟨by rw [hw]; rfl, by rw [hw]; rfl, by rw [hw]; rfl, by rw [hheap]; simp, fun b hb => ?_⟩
          rw [hheap, Array.getElem?_push, if_neg (by omega)]
        have hnew : w'.heap[E.w.heap.size]? = some (.cells cs T) := by rw [hheap]; simp
        let o : AObj := .parr false false (.str .nil) 1 (splitN s ⟨#[c]⟩) (splitRow s ⟨#[c]⟩)
        let E' : Env := ⟨fun _ => E.w.heap.size, fun id => [o][id]?, E.D, w'⟩
        have hone : ∀ id q, E'.H id = some q → id = 0 ∧ q = o := by
          intro id q hq
          cases id with
          | zero => exact ⟨rfl, (Option.some.inj hq).symm⟩
          | succ id => cases hq
        have hblk : E'.blk 0 cs := ⟨T, _, hnew, Nat.le_refl _, fun j hj h => by have := h.1; have := h.2; simp at *⟩
        refine ⟨_, E', he, rfl, ⟨fun id q hq => ?_, fun i j oi oj hi hj _ _ hij => ?_, fun i q hi _ hd => ?_, fun b hd => ?_, hE.gl.mono (fun b ⟨h1, h2, h3⟩ => ⟨Nat.lt_of_lt_of_le h1 hb.size, h2, fun id q hq _ e => by
              have e : E.w.heap.size = b := e
              omega⟩) fun b ⟨h1, _, _⟩ => hb.block b h1⟩, fun id => rfl, ?_, ?_⟩
        · obtain ⟨rfl, rfl⟩ := hone id q hq
          refine ⟨fun j hj c' => ?_, .inr ⟨rfl, cs, hblk, by rw [hsz]; omega, fun j hj c' hc' => ?_, fun h => by cases h⟩⟩
          · cases c' with
            | zero => exact ⟨_, rfl⟩
            | succ c' => rw [kDrop_succ]; show ckOk (kDrop .nil c') _; rw [kDrop_nil]; trivial
          · obtain rfl : c' = 0 := by omega
            rw [Nat.mul_one, Nat.add_zero, hcell j hj]
            exact ⟨_, rfl, rfl, rfl⟩
        · obtain ⟨rfl, _⟩ := hone i oi hi
          obtain ⟨rfl, _⟩ := hone j oj hj
          exact absurd rfl hij
        · have := hE.dom _ hd
          exact absurd this (Nat.lt_irrefl _)
        · exact Nat.lt_of_lt_of_le (hE.dom b hd) hb.size
        · show OwnV E' 0 false 1 _ _ _
          exact ⟨Nat.le_refl _, .inr ⟨rfl, splitN s ⟨#[c]⟩, cs, rfl, Nat.le_refl _, hblk, by rw [hsz]; omega⟩⟩
        · exact {
            s := fun b ⟨h1, h2, h3⟩ => ⟨Nat.lt_of_lt_of_le h1 hb.size, h2, fun id q hq _ e => by
              have e : E.w.heap.size = b := e
              omega⟩
            c := fun b ⟨h1, _, _⟩ => hb.block b h1
            D := rfl
            dom := fun b h => hb.block b (hE.dom b h)
            os := hb.os
            tape := hb.tape
            output := hb.output
            size := hb.size
            i := fun id h => absurd h (Nat.not_lt_zero id)
            h := fun id h => absurd h (Nat.not_lt_zero id)
            z := fun id h => absurd h (Nat.not_lt_zero id) }
  · cases hG
end Go.Ve
