/- The evaluator ("VE"): functions that are told by a summary. -/
import Derived.Test.YtampnnhdgnhjaaaVe21
set_option linter.unusedVariables false
namespace Go.Ve
abbrev Sm := List AV → List AObj → (AV → List AObj → Option Out) → Option Out
/-- the program's functions, each by its summary, or by its code, so deep -/
noncomputable def runS (tt : Nat → Option TD) (eqs : Nat → Bool) (funcs : Array Func) (fuel : Nat) (S : List (Nat × Sm)) (d : Nat) : VCall :=
  Nat.rec (fun _ _ _ _ => none) (fun _ (ih : VCall) f args hs k => match aget S f with
    | some g => g args hs k
    | none => match funcs[f]? with
      | some fn => enter { tt, eqs, call := ih, fuel } fn args hs k
      | none => none) d
def SumOk (P : Program) (f : Nat) (g : Sm) : Prop := ∀ args hs k r, g args hs k = some r → ∃ v os, k v os = some r ∧ (∀ k', g args hs k' = k' v os) ∧ CallOk P f args hs v os
def SumsOk (P : Program) (S : List (Nat × Sm)) : Prop := ∀ f g, aget S f = some g → SumOk P f g
theorem sums_nil {P : Program} : SumsOk P [] := fun f g h => by cases h
theorem sums_cons {P : Program} {f : Nat} {g : Sm} {S : List (Nat × Sm)} (h : SumOk P f g) (hs : SumsOk P S) : SumsOk P ((f, g) :: S) := by
  intro f' g' hg
  simp only [aget] at hg
  by_cases hf : f' = f
  · subst hf; rw [Nat.beq_refl, cond_true] at hg; injection hg with hg; subst hg; exact h
  · rw [beq_false hf, cond_false] at hg; exact hs f' g' hg
theorem runS_ok {P : Program} {tt : Nat → Option TD} (hT : TT P tt) {eqs : Nat → Bool} (hE : EqOk P tt eqs) (hM : P.follows .mixedOrders = true) (hN : ∀ (f : Nat) (fn : Func), P.funcs[f]? = some fn → (fn.name == "runtime.NumGoroutine") = false) {fuel : Nat} {S : List (Nat × Sm)} (hS : SumsOk P S) :
    ∀ d, CallSem P (runS tt eqs P.funcs fuel S d)
  | 0 => fun f args hs k r h => by cases h
  | d + 1 => fun f args hs k r h => by
    have ih := runS_ok hT hE hM hN (fuel := fuel) hS d
    have hd : ∀ k', runS tt eqs P.funcs fuel S (d + 1) f args hs k' = match aget S f with
      | some g => g args hs k'
      | none => match P.funcs[f]? with
        | some fn => enter { tt, eqs, call := runS tt eqs P.funcs fuel S d, fuel } fn args hs k'
        | none => none := fun _ => rfl
    rw [hd] at h
    split at h
    · rename_i g hg
      obtain ⟨v, os, h1, h2, h3⟩ := hS f g hg args hs k r h
      exact ⟨v, os, h1, fun k' => by rw [hd, hg]; exact h2 k', h3⟩
    · rename_i hg
      split at h
      · rename_i fn hf
        obtain ⟨v, os, h1, h2, h3⟩ := enter_ok (C := { tt, eqs, call := runS tt eqs P.funcs fuel S d, fuel }) ⟨hT, hE, ih⟩ hM hf (hN f fn hf) h
        exact ⟨v, os, h1, fun k' => by rw [hd, hg]; simp only [hf]; exact h2 k', h3⟩
      · cases h
/-- a summary, from what is answered -/
theorem SumOk.of {P : Program} {f : Nat} {g : Sm} {call : VCall} (hc : CallSem P call) (h : ∀ args hs k r, g args hs k = some r → ∀ k', call f args hs k' = g args hs k') : SumOk P f g := by
  intro args hs k r hg
  have e := h args hs k r hg
  obtain ⟨v, os, h1, h2, h3⟩ := hc f args hs k r (by rw [e]; exact hg)
  exact ⟨v, os, h1, fun k' => by rw [← e]; exact h2 k', h3⟩
/-- a function without arguments that answers true -/
def yes : Sm := fun args hs k => match args, hs with
  | [], [] => k (.b true) []
  | _, _ => none
theorem SumOk.yes {P : Program} {f : Nat} {call : VCall} (hc : CallSem P call) (h : ∀ k, call f [] [] k = k (.b true) []) : SumOk P f yes :=
  SumOk.of hc fun args hs k r hg k' => by
    unfold Ve.yes at hg ⊢
    split at hg
    · exact h k'
    · cases hg
end Go.Ve
