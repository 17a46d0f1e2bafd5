/- The evaluator ("VE"): numbers as texts and texts as numbers: strconv.Itoa, and a function that reads a number that is its own text, as summaries out of the kit's contracts. -/
import Derived.Test.YtijabmpcicddbaaVe31
import Derived.Lib.ItoaMem
import Derived.Lib.AtoiAll
set_option linter.unusedVariables false
set_option linter.unusedSimpArgs false
namespace Go.Ve
open Go.RowKit
variable {P : Program}
def dec : Nat → Nat → List UInt8 → List UInt8
  | 0, _, acc => acc
  | f + 1, u, acc => bif Nat.blt u 10 then UInt8.ofNat (48 + u) :: acc else dec f (u / 10) (UInt8.ofNat (48 + u % 10) :: acc)
theorem dec_eq : ∀ (f u : Nat) (acc : List UInt8), u < 10 ^ (f + 1) → dec (f + 1) u acc = Lib.decDigits u ++ acc
  | f, u, acc, h => by
    by_cases hu : u < 10
    · rw [Lib.decDigits, dif_pos hu]
      have : Nat.blt u 10 = true := Nat.ble_eq_true_of_le hu
      simp only [dec, this, cond_true]
      rfl
    · have hb : Nat.blt u 10 = false := by
        cases hh : Nat.blt u 10 with
        | false => rfl
        | true => exact absurd (Nat.le_of_ble_eq_true hh) hu
      cases f with
      | zero => omega
      | succ f =>
        rw [Lib.decDigits, dif_neg hu]
        have : dec (f + 1 + 1) u acc = dec (f + 1) (u / 10) (UInt8.ofNat (48 + u % 10) :: acc) := by
          show (bif Nat.blt u 10 then _ else _) = _
          rw [hb, cond_false]
        rw [this, dec_eq f (u / 10) _ (by rw [Nat.pow_succ] at h; omega)]
        simp
def decL (u : Nat) : List UInt8 := dec 20 u []
theorem decL_eq {u : Nat} (h : u < 100000000000000000000) : decL u = Lib.decDigits u := by
  unfold decL
  rw [dec_eq 19 u [] (by simpa using h), List.append_nil]
def itoaS (n : Int) : ByteArray := ⟨(bif decide (n < 0) then 45 :: decL n.natAbs else decL n.natAbs).toArray⟩
def okI (n : Int) : Bool := decide (-9223372036854775808 ≤ n) && decide (n ≤ 9223372036854775807)
theorem okI_spec {n : Int} : okI n = true ↔ -9223372036854775808 ≤ n ∧ n ≤ 9223372036854775807 := by simp [okI]
theorem itoaS_eq {n : Int} (h : okI n = true) : itoaS n = ⟨(Lib.itoa n).toArray⟩ := by
  obtain ⟨h0, h1⟩ := okI_spec.1 h
  unfold itoaS Lib.itoa
  by_cases hn : n < 0
  · rw [if_pos hn, decide_eq_true hn, cond_true, decL_eq (by omega)]
  · rw [if_neg hn, decide_eq_false hn, cond_false, decL_eq (by omega), show n.natAbs = n.toNat by omega]
def TabsAt (w : World) : Prop := ∀ b p, (b, p) ∈ tabs → ∃ cs T fr, w.heap[b]? = some (.cells cs T fr) ∧ p cs
theorem Env.ok.tabs {E : Env} (h : E.ok) : TabsAt E.w := fun b p hb => (h.gl b p hb).2
def itoaSm : Sm := fun args hs => match args, hs with
  | [.v (.c (.pv (.val (.int .i64 n))))], [] => some fun k => bif okI n then k (.val (.string (itoaS n))) [] else none
  | _, _ => none
theorem itoa_sum {f : FuncId} (hfn : ∃ fn, P.funcs[f]? = some fn ∧ fn.body.isNone = false ∧ (fn.name == "runtime.NumGoroutine") = false)
    (h1 : ∀ (n : Int) (w : World), TabsAt w → -9223372036854775808 ≤ n → n ≤ 9223372036854775807 → Calls P f #[.int .i64 n] w fun e w' => e = .returned (.string ⟨(Lib.itoa n).toArray⟩) ∧ Below w.heap.size w w') : SumOk P f itoaSm := by
  intro args hs G hG
  unfold itoaSm at hG
  split at hG
  · rename_i n
    injection hG with hG
    subst hG
    intro k r hg
    obtain ⟨hok, hg⟩ := cond_some hg
    refine ⟨_, _, hg, fun k' => by show (bif okI n then _ else _) = _; rw [hok, cond_true], ⟨hfn, fun E vals hE hH hr => ?_⟩⟩
    have hn : ∀ id, E.H id = none := fun id => by rw [hH]; rfl
    cases hr with
    | cons hx hr =>
      cases hr
      obtain ⟨rfl, _⟩ := hx
      obtain ⟨i1, i2⟩ := okI_spec.1 hok
      refine Calls.mono (h1 n E.w hE.tabs i1 i2) fun e w' ⟨he, hw⟩ => ?_
      obtain ⟨q1, q2⟩ := quiet_env hE hn hw
      exact ⟨_, _, by rw [itoaS_eq hok]; exact he, rfl, q1, fun id => by rw [show (⟨E.ι, E.H, E.D, w'⟩ : Env).H id = E.H id from rfl, hn]; rfl, ⟨rfl, rfl⟩, q2⟩
  · cases hG
/-! ### the number of a text that is the number's own -/
def numVL (l : List UInt8) : Nat := l.foldl (fun a c => a * 10 + (c.toNat - 48)) 0
def numV (s : ByteArray) : Nat := numVL s.data.toList
def numOk (s : ByteArray) : Bool := Nat.ble (numV s) 4294967295 && (decL (numV s) == s.data.toList)
theorem u8_digit {d : Nat} (h : d < 10) : (UInt8.ofNat (48 + d)).toNat = 48 + d := by
  rw [UInt8.toNat_ofNat_of_lt' (by simp [UInt8.size]; omega)]
theorem numVL_append (a b : List UInt8) : numVL (a ++ b) = b.foldl (fun a c => a * 10 + (c.toNat - 48)) (numVL a) := by simp [numVL, List.foldl_append]
theorem numVL_dec : ∀ (u : Nat), numVL (Lib.decDigits u) = u := by
  intro u
  induction u using Nat.strongRecOn with
  | _ u ih =>
    by_cases h : u < 10
    · rw [Lib.decDigits, dif_pos h]
      simp only [numVL, List.foldl_cons, List.foldl_nil, u8_digit h]
      omega
    · rw [Lib.decDigits, dif_neg h, numVL_append, ih (u / 10) (by omega)]
      simp only [List.foldl_cons, List.foldl_nil, u8_digit (show u % 10 < 10 by omega)]
      omega
theorem dec_ne (u : Nat) : Lib.decDigits u ≠ [] := by
  rw [Lib.decDigits]
  split <;> simp
theorem parse_dec : ∀ (u : Nat) (r : List UInt8) , u < 9223372036854775808 → Lib.parseUint10 0 (Lib.decDigits u ++ r) = Lib.parseUint10 u r := by
  intro u
  induction u using Nat.strongRecOn with
  | _ u ih =>
    intro r hu
    by_cases h : u < 10
    · rw [Lib.decDigits, dif_pos h]
      simp only [List.cons_append, List.nil_append, Lib.parseUint10, u8_digit h]
      rw [if_pos (by omega), if_neg (by omega), if_neg (by omega)]
      congr 1
      omega
    · rw [Lib.decDigits, dif_neg h, List.append_assoc, ih (u / 10) (by omega) _ (by omega)]
      simp only [List.cons_append, List.nil_append, Lib.parseUint10, u8_digit (show u % 10 < 10 by omega)]
      rw [if_pos (by omega), if_neg (by omega), if_neg (by omega)]
      congr 1
      omega
theorem dec_head (u : Nat) : ∃ c r, Lib.decDigits u = c :: r ∧ 48 ≤ c.toNat ∧ c.toNat ≤ 57 := by
  induction u using Nat.strongRecOn with
  | _ u ih =>
    by_cases h : u < 10
    · rw [Lib.decDigits, dif_pos h]
      exact ⟨_, _, rfl, by rw [u8_digit h]; omega, by rw [u8_digit h]; omega⟩
    · obtain ⟨c, r, e, h1, h2⟩ := ih (u / 10) (by omega)
      rw [Lib.decDigits, dif_neg h, e]
      exact ⟨c, _, rfl, h1, h2⟩
theorem atoi_dec {u : Nat} (hu : u < 9223372036854775808) : Lib.atoiAll (Lib.decDigits u) = .ok (u : Int) := by
  obtain ⟨c, r, e, h1, h2⟩ := dec_head u
  have hp : Lib.parseMag (Lib.decDigits u) = .ok u := by
    unfold Lib.parseMag
    rw [if_neg (dec_ne u)]
    have := parse_dec u [] hu
    rwa [List.append_nil] at this
  rw [e] at hp ⊢
  simp only [Lib.atoiAll]
  rw [if_neg (by omega), hp]
  simp only
  rw [if_neg (by omega), if_neg (by omega), if_neg (by omega)]
theorem numOk_spec {s : ByteArray} : numOk s = true ↔ ∃ u : Nat, u ≤ 4294967295 ∧ s.data.toList = Lib.decDigits u := by
  unfold numOk
  simp only [Bool.and_eq_true, beq_iff_eq]
  constructor
  · rintro ⟨h1, h2⟩
    have h1 := Nat.le_of_ble_eq_true h1
    exact ⟨numV s, h1, by rw [← h2, decL_eq (by omega)]⟩
  · rintro ⟨u, h1, h2⟩
    have hv : numV s = u := by unfold numV; rw [h2, numVL_dec]
    rw [hv]
    exact ⟨Nat.ble_eq_true_of_le h1, by rw [h2, decL_eq (by omega)]⟩
theorem numV_spec {s : ByteArray} {u : Nat} (h : s.data.toList = Lib.decDigits u) : numV s = u := by unfold numV; rw [h, numVL_dec]
def numI (s : ByteArray) : Int := bif numOk s then ((numV s : Nat) : Int) else 0
def numSm : Sm := fun args hs => match args, hs with
  | [.v (.c (.pv (.val (.string s))))], [] => some fun k => bif Nat.ble s.size 281474976710656 then k (.tup [.c (.pv (.val (.int .i64 (numI s)))), .c (.pv (.val (.bool (numOk s))))]) [] else none
  | _, _ => none
theorem num_sum {f : FuncId} (hfn : ∃ fn, P.funcs[f]? = some fn ∧ fn.body.isNone = false ∧ (fn.name == "runtime.NumGoroutine") = false)
    (h1 : ∀ (s : ByteArray) (w : World), TabsAt w → s.size ≤ 281474976710656 → Calls P f #[.string s] w fun e w' => e = .returned (bif numOk s then .tuple #[.int .i64 (numV s : Nat), .bool true] else .tuple #[.int .i64 0, .bool false]) ∧ Below w.heap.size w w') : SumOk P f numSm := by
  intro args hs G hG
  unfold numSm at hG
  split at hG
  · rename_i s
    injection hG with hG
    subst hG
    intro k r hg
    obtain ⟨hok, hg⟩ := cond_some hg
    have hok' := Nat.le_of_ble_eq_true hok
    refine ⟨_, _, hg, fun k' => by show (bif Nat.ble s.size 281474976710656 then _ else _) = _; rw [hok, cond_true], ⟨hfn, fun E vals hE hH hr => ?_⟩⟩
    have hn : ∀ id, E.H id = none := fun id => by rw [hH]; rfl
    cases hr with
    | cons hx hr =>
      cases hr
      obtain ⟨rfl, _⟩ := hx
      refine Calls.mono (h1 s E.w hE.tabs hok') fun e w' ⟨he, hw⟩ => ?_
      obtain ⟨q1, q2⟩ := quiet_env hE hn hw
      refine ⟨_, _, he, rfl, q1, fun id => by rw [show (⟨E.ι, E.H, E.D, w'⟩ : Env).H id = E.H id from rfl, hn]; rfl, ?_, q2⟩
      unfold numI
      cases hb : numOk s with
      | true => exact ⟨_, rfl, .cons ⟨rfl, rfl⟩ (.cons ⟨rfl, rfl⟩ .nil)⟩
      | false => exact ⟨_, rfl, .cons ⟨rfl, rfl⟩ (.cons ⟨rfl, rfl⟩ .nil)⟩
  · cases hG
end Go.Ve
