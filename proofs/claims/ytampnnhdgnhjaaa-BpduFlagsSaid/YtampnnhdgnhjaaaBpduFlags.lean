/- BpduFlags answers true for every BPDU, and leaves it as it was: proved with no condition beyond the statement's own. -/
import Derived.Test.YtampnnhdgnhjaaaRows
import Derived.Test.YtampnnhdgnhjaaaSeat
import Derived.Test.YtampnnhdgnhjaaaVe22
import Derived.JoinedOf
import Derived.JoinedAt
import Derived.Handed
import Derived.IntWalk
namespace Go.Proofs.Ytampnnhdgnhjaaa.BpduFlags
open Go.Ve
set_option linter.unusedVariables false
set_option linter.unusedSimpArgs false

/-! ### the walk -/
/-- flag, told without a branch -/
def flagS : Sm := fun args hs k => match args, hs with
  | [.v (.c (.pv (.val (.bool b)))), .v (.c (.pv (.val (.int .u8 n))))], [] => k (.val (.int .u8 (bif b then n else 0))) []
  | _, _ => none
theorem flag_eq (b : Bool) (n : Int) (k : AV → List AObj → Option Out) : runS tt (has eql) Try.prog.funcs 1000 [] 2 96 [.b b, .val (.int .u8 n)] [] k = k (.val (.int .u8 (bif b then n else 0))) [] := by
  cases b with
  | true => kernel_rfl
  | false => kernel_rfl
theorem wakes_eq (k : AV → List AObj → Option Out) : runS tt (has eql) Try.prog.funcs 1000 [] 8 16 [] [] k = k (.b true) [] := by kernel_rfl
theorem sumsOk : SumsOk Try.prog [(16, yes), (96, flagS)] := by
  refine sums_cons (SumOk.yes (runS_ok ttOk eqOk mixed (names_ok namesOk) sums_nil 8) wakes_eq) (sums_cons ?_ sums_nil)
  refine SumOk.of (runS_ok ttOk eqOk mixed (names_ok namesOk) sums_nil (fuel := 1000) 2) fun args hs k r hg k' => ?_
  unfold flagS at hg ⊢
  split at hg
  · exact flag_eq _ _ k'
  · cases hg
noncomputable abbrev call (d : Nat) : VCall := runS tt (has eql) Try.prog.funcs 1000 [(16, yes), (96, flagS)] d
def bp (a0 a1 a2 a3 a4 a5 : Int) (b0 b1 b2 b3 b4 : Bool) : AV := .v (.agg [.pv (.val (.int .u64 a0)), .pv (.val (.int .u32 a1)), .pv (.val (.int .u64 a2)), .pv (.val (.int .i64 a3)), .pv (.val (.int .i64 a4)), .pv (.val (.int .i64 a5)), .pv (.val (.bool b0)), .pv (.val (.bool b1)), .pv (.val (.bool b2)), .pv (.val (.bool b3)), .pv (.val (.bool b4))])
def by8 (n : Int) (s : Int) : Int := IntKind.u8.wrap (shrI .u64 n s)
def up (n r s : Int) : Int := IntKind.u64.wrap (shlI .u64 r 8 + IntKind.u64.wrap (by8 n s))
def root8 (n : Int) : Int := up n (up n (up n (up n (up n (up n (up n (up n 0 56) 48) 40) 32) 24) 16) 8) 0
def or8 (x y : Int) : Int := bits .or .u8 x y
def fl (b : Bool) (n : Int) : Int := bif b then n else 0
def flg (a5 : Int) (b0 b1 b2 b3 b4 : Bool) : Int := or8 (or8 (or8 (or8 (or8 (fl b4 1) (fl b0 2)) (shlI .u8 (IntKind.u8.wrap a5) 2)) (fl b2 16)) (fl b3 32)) (fl b1 64)
def X (a5 : Int) (b0 b1 b2 b3 b4 : Bool) : Int := by8 (IntKind.u64.wrap (flg a5 b0 b1 b2 b3 b4)) 0
def tst (x m : Int) : Bool := bits .and .u8 x m != 0
theorem walk (a0 a1 a2 a3 a4 a5 : Int) (b0 b1 b2 b3 b4 : Bool) (k : AV → List AObj → Option Out) : call 9 4 [bp a0 a1 a2 a3 a4 a5 b0 b1 b2 b3 b4] [] k =
  bif decide (a4 ≥ 0) then bif decide (a4 ≤ 65535) then bif decide (a3 ≥ 0) then bif decide (a3 ≤ 65535) then bif decide (a5 ≥ 1) then bif !(decide (a5 ≤ 3)) then k (.b true) [] else
   (bif !(tst (X a5 b0 b1 b2 b3 b4) 1 == b4) then k (.b false) [] else bif !(tst (X a5 b0 b1 b2 b3 b4) 2 == b0) then k (.b false) [] else
    bif (IntKind.i64.wrap (bits .and .u8 (shrI .u8 (X a5 b0 b1 b2 b3 b4) 2) 3) != a5) then k (.b false) [] else
    bif !(tst (X a5 b0 b1 b2 b3 b4) 16 == b2) then k (.b false) [] else bif !(tst (X a5 b0 b1 b2 b3 b4) 32 == b3) then k (.b false) [] else bif !(tst (X a5 b0 b1 b2 b3 b4) 64 == b1) then k (.b false) [] else
    bif tst (X a5 b0 b1 b2 b3 b4) 128 then k (.b false) [] else
    bif root8 a0 == a0 then bif by8 (IntKind.u64.wrap a1) 0 == IntKind.u8.wrap a1 then bif by8 a2 0 == IntKind.u8.wrap a2 then bif by8 (IntKind.u64.wrap a3) 0 == IntKind.u8.wrap a3 then bif by8 (IntKind.u64.wrap a4) 0 == IntKind.u8.wrap a4 then k (.b true) [] else k (.b false) [] else k (.b false) [] else k (.b false) [] else k (.b false) [] else k (.b false) [])
   else k (.b true) [] else k (.b true) [] else k (.b true) [] else k (.b true) [] else k (.b true) [] := by kernel_rfl

/-! ### the plain law -/
theorem flags_true (a5 : Int) (h1 : 1 ≤ a5) (h3 : a5 ≤ 3) (b0 b1 b2 b3 b4 : Bool) :
    ((tst (X a5 b0 b1 b2 b3 b4) 1 == b4) && (tst (X a5 b0 b1 b2 b3 b4) 2 == b0) && !(IntKind.i64.wrap (bits .and .u8 (shrI .u8 (X a5 b0 b1 b2 b3 b4) 2) 3) != a5) && (tst (X a5 b0 b1 b2 b3 b4) 16 == b2) && (tst (X a5 b0 b1 b2 b3 b4) 32 == b3) && (tst (X a5 b0 b1 b2 b3 b4) 64 == b1) && !(tst (X a5 b0 b1 b2 b3 b4) 128)) = true := by
  have : a5 = 1 ∨ a5 = 2 ∨ a5 = 3 := by omega
  rcases this with rfl | rfl | rfl <;> cases b0 <;> cases b1 <;> cases b2 <;> cases b3 <;> cases b4 <;> decide +kernel
theorem shr_eq (n : Int) (s : Nat) (hs : s ≤ 64) : shrI .u64 n (s : Int) = n / (2 ^ s : Int) := by
  unfold shrI
  have : min ((s : Int).toNat) (IntKind.u64.bits) = s := by simp [IntKind.bits]; omega
  rw [this, Int.fdiv_eq_ediv_of_nonneg _ (by exact Int.le_of_lt (Int.pow_pos (by decide)))]
theorem by8_eq (n : Int) (s : Nat) (hs : s ≤ 64) : by8 n (s : Int) = (n / (2 ^ s : Int)) % 256 := by
  unfold by8
  rw [shr_eq n s hs, IntKind.wrap_u8]
theorem up_eq (n r : Int) (s : Nat) (hs : s ≤ 64) (hr : 0 ≤ r ∧ r < 72057594037927936) : up n r (s : Int) = r * 256 + (n / (2 ^ s : Int)) % 256 := by
  unfold up
  rw [by8_eq n s hs]
  have e : shlI .u64 r 8 = IntKind.u64.wrap (r * 256) := rfl
  rw [e, IntWalk.u64_in (r * 256) (by omega), IntWalk.u64_in ((n / (2 ^ s : Int)) % 256) (by omega), IntWalk.u64_in _ (by omega)]
theorem root_eq (n : Int) (h0 : 0 ≤ n) (h1 : n ≤ 18446744073709551615) : root8 n = n := by
  have e56 := up_eq n 0 56 (by decide) (by decide)
  have c56 : up n 0 56 = n / 72057594037927936 := by
    have : up n 0 56 = 0 * 256 + (n / (2 ^ 56 : Int)) % 256 := e56
    rw [this, show (2 ^ 56 : Int) = 72057594037927936 by decide]; omega
  have c48 : up n (n / 72057594037927936) 48 = n / 281474976710656 := by
    have : up n (n / 72057594037927936) 48 = (n / 72057594037927936) * 256 + (n / (2 ^ 48 : Int)) % 256 := up_eq n _ 48 (by decide) (by omega)
    rw [this, show (2 ^ 48 : Int) = 281474976710656 by decide]; omega
  have c40 : up n (n / 281474976710656) 40 = n / 1099511627776 := by
    have : up n (n / 281474976710656) 40 = (n / 281474976710656) * 256 + (n / (2 ^ 40 : Int)) % 256 := up_eq n _ 40 (by decide) (by omega)
    rw [this, show (2 ^ 40 : Int) = 1099511627776 by decide]; omega
  have c32 : up n (n / 1099511627776) 32 = n / 4294967296 := by
    have : up n (n / 1099511627776) 32 = (n / 1099511627776) * 256 + (n / (2 ^ 32 : Int)) % 256 := up_eq n _ 32 (by decide) (by omega)
    rw [this, show (2 ^ 32 : Int) = 4294967296 by decide]; omega
  have c24 : up n (n / 4294967296) 24 = n / 16777216 := by
    have : up n (n / 4294967296) 24 = (n / 4294967296) * 256 + (n / (2 ^ 24 : Int)) % 256 := up_eq n _ 24 (by decide) (by omega)
    rw [this, show (2 ^ 24 : Int) = 16777216 by decide]; omega
  have c16 : up n (n / 16777216) 16 = n / 65536 := by
    have : up n (n / 16777216) 16 = (n / 16777216) * 256 + (n / (2 ^ 16 : Int)) % 256 := up_eq n _ 16 (by decide) (by omega)
    rw [this, show (2 ^ 16 : Int) = 65536 by decide]; omega
  have c8 : up n (n / 65536) 8 = n / 256 := by
    have : up n (n / 65536) 8 = (n / 65536) * 256 + (n / (2 ^ 8 : Int)) % 256 := up_eq n _ 8 (by decide) (by omega)
    rw [this, show (2 ^ 8 : Int) = 256 by decide]; omega
  have c0 : up n (n / 256) 0 = n := by
    have : up n (n / 256) 0 = (n / 256) * 256 + (n / (2 ^ 0 : Int)) % 256 := up_eq n _ 0 (by decide) (by omega)
    rw [this, show (2 ^ 0 : Int) = 1 by decide]; omega
  unfold root8
  rw [c56, c48, c40, c32, c24, c16, c8, c0]
theorem low_eq (n : Int) : by8 n 0 = IntKind.u8.wrap n := by
  have := by8_eq n 0 (by decide)
  rw [IntKind.wrap_u8]
  have e : by8 n 0 = (n / (2 ^ 0 : Int)) % 256 := this
  rw [e, show (2 ^ 0 : Int) = 1 by decide, Int.ediv_one]
theorem main (a0 a1 a2 a3 a4 a5 : Int) (b0 b1 b2 b3 b4 : Bool) (h0 : 0 ≤ a0 ∧ a0 ≤ 18446744073709551615) (h1 : 0 ≤ a1 ∧ a1 ≤ 4294967295) (k : AV → List AObj → Option Out) : call 9 4 [bp a0 a1 a2 a3 a4 a5 b0 b1 b2 b3 b4] [] k = k (.b true) [] := by
  rw [walk]
  cases c1 : decide (a4 ≥ 0) with
  | false => rfl
  | true =>
  cases c2 : decide (a4 ≤ 65535) with
  | false => rfl
  | true =>
  cases c3 : decide (a3 ≥ 0) with
  | false => rfl
  | true =>
  cases c4 : decide (a3 ≤ 65535) with
  | false => rfl
  | true =>
  cases c5 : decide (a5 ≥ 1) with
  | false => rfl
  | true =>
  cases c6 : decide (a5 ≤ 3) with
  | false => rfl
  | true =>
  simp only [decide_eq_true_eq] at c1 c2 c3 c4 c5 c6
  have hf := flags_true a5 c5 c6 b0 b1 b2 b3 b4
  simp only [Bool.and_eq_true, Bool.not_eq_true'] at hf
  obtain ⟨⟨⟨⟨⟨⟨f1, f2⟩, f3⟩, f4⟩, f5⟩, f6⟩, f7⟩ := hf
  have e0 : (root8 a0 == a0) = true := by rw [root_eq a0 h0.1 h0.2]; simp
  have e1 : (by8 (IntKind.u64.wrap a1) 0 == IntKind.u8.wrap a1) = true := by rw [low_eq, IntWalk.u64_in a1 (by omega)]; simp
  have e2 : (by8 a2 0 == IntKind.u8.wrap a2) = true := by rw [low_eq]; simp
  have e3 : (by8 (IntKind.u64.wrap a3) 0 == IntKind.u8.wrap a3) = true := by rw [low_eq, IntWalk.u64_in a3 (by omega)]; simp
  have e4 : (by8 (IntKind.u64.wrap a4) 0 == IntKind.u8.wrap a4) = true := by rw [low_eq, IntWalk.u64_in a4 (by omega)]; simp
  rw [f1, f2, f3, f4, f5, f6, f7, e0, e1, e2, e3, e4]
  rfl

/-! ### the statement -/
theorem args_eq {H : Type} (d : DataW H) : targs Try.prog 6 [27] [d] = [bp (dint (dsub (dsub d 0) 0)) (dint (dsub (dsub d 0) 1)) (dint (dsub (dsub d 0) 2)) (dint (dsub (dsub d 0) 3)) (dint (dsub d 1)) (dint (dsub d 2)) (dbool (dsub d 3)) (dbool (dsub d 4)) (dbool (dsub d 5)) (dbool (dsub d 6)) (dbool (dsub d 7))] := by kernel_rfl
theorem cells_eq {H : Type} (d : DataW H) : tpv Try.prog 6 27 d = [.val (.int .u64 (dint (dsub (dsub d 0) 0))), .val (.int .u32 (dint (dsub (dsub d 0) 1))), .val (.int .u64 (dint (dsub (dsub d 0) 2))), .val (.int .i64 (dint (dsub (dsub d 0) 3))), .val (.int .i64 (dint (dsub d 1))), .val (.int .i64 (dint (dsub d 2))), .val (.bool (dbool (dsub d 3))), .val (.bool (dbool (dsub d 4))), .val (.bool (dbool (dsub d 5))), .val (.bool (dbool (dsub d 6))), .val (.bool (dbool (dsub d 7)))] := by kernel_rfl
theorem ints {k : IntKind} {n : Int} (h : PvOk (.val (.int k n))) : k.min ≤ n ∧ n ≤ k.max := by cases h with | int h1 h2 => exact ⟨h1, h2⟩
theorem params : Try.f4.params.toList = [27] := by kernel_rfl
set_option maxRecDepth 100000 in
theorem contract (H : Type) (enc : TypeId × Value → H) (W : World) (base : Nat) (args : Array Value) (ds gs : List (DataW H)) (before : List MemPlace)
    (hval : ∀ (j : Nat) t v, Try.f4.params[j]? = some t → args[j]? = some v → Value.okWide Try.prog W .any base t v)
    (hW : DataW.Whole enc Try.prog Try.f4.params.toList Rows.bpduFlagsSpec.vars false W args.toList ds gs before) :
    Calls Try.prog 4 args W fun e W' => ∃ v, e = .returned v ∧ Rows.bpduFlagsSpec.post enc Try.prog Try.f4 false true false false W args v W' := by
  refine gate (P := Try.prog) (f := 4) (fn := Try.f4) (s := Rows.bpduFlagsSpec) (n := 6) (tb := 4) (by kernel_rfl) laid (by kernel_rfl) (by kernel_rfl) (by kernel_rfl) rfl (fun ds hl => ?_) hval hW fun _ hl hok => ⟨call 9, [], runS_ok ttOk eqOk mixed (names_ok namesOk) sumsOk 9, fun k => ?_⟩
  · rw [params] at hl
    match ds, hl with
    | [d], _ => rfl
  · rw [params] at hl hok ⊢
    match ds, hl, hok with
    | [d], _, hok =>
      obtain ⟨hp, _⟩ := hok
      rw [cells_eq] at hp
      rw [args_eq]
      have i0 := ints (hp _ (List.mem_cons_self ..))
      have i1 := ints (hp _ (List.mem_cons_of_mem _ (List.mem_cons_self ..)))
      exact main _ _ _ _ _ _ _ _ _ _ _ i0 i1 k
set_option maxRecDepth 100000 in
theorem lifted (os : Os) (started : os.Started) (H : Type) (enc : TypeId × Value → H) :
    ReturnsInHanded {} Try.checked os 4 .any (Rows.bpduFlagsSpec.pre6 enc Try.prog Try.f4 Rows.bpduFlagsRow.domain false) (Rows.bpduFlagsSpec.post enc Try.prog Try.f4 false true false false) := by
  refine returnsInHanded_of_change (C := Try.checked) (show ownKnob Try.prog.godebug = none by kernel_rfl) started (by kernel_rfl) Try.func4
    (ChangeSpec.witness6 (enc := enc) (C := Try.checked) false ⟨#[], #[.agg #[.int .u64 0, .int .u32 0, .int .u64 0, .int .i64 0, .int .i64 0, .int .i64 0, .bool false, .bool false, .bool false, .bool false, .bool false]], []⟩ 8 (by kernel_rfl) (by kernel_rfl) (by kernel_rfl) (by kernel_rfl)) ?_
  intro W base args ds gs before hval hW _ _
  exact contract H enc W base args ds gs before hval hW
theorem proved : Rows.BpduFlagsSaid :=
  OpenClaim.holds_of_wide 4 Try.f4 rfl rfl rfl rfl rfl rfl rfl ⟨rfl, rfl, rfl, rfl, rfl⟩ rfl rfl rfl rfl rfl (by kernel_rfl) Try.func4 (by kernel_rfl)
    (of_decide_eq_true (by kernel_rfl)) (by unfold Func.isWrapper; first | (rw [if_pos (by decide +kernel)]; kernel_rfl) | (rw [if_neg (by decide +kernel)]; exact ⟨rfl, rfl⟩))
    (fun os started H enc _ => lifted os started H enc)
end Go.Proofs.Ytampnnhdgnhjaaa.BpduFlags
