/- The evaluator ("VE"): from what a row lays to the tables' facts. -/
import Derived.Test.YtijabmpcicddbaaDoorVe33
import Derived.Lib.LaidTab
import GoSem.ClaimJoined
set_option linter.unusedVariables false
set_option linter.unusedSimpArgs false
namespace Go.Ve
variable {P : Program} {W : World}
theorem laidVars_mem : ∀ {l : List (String × DataW Unit)} {ps : List MemPlace}, DataW.LaidVars P W l ps → ∀ n d, (n, d) ∈ l →
    ∃ g t cs fuel p, P.globalNamed n = some g ∧ (P.globals[g]?).map (·.type) = some t ∧ W.var? P n = some cs ∧ DataW.trod (fun _ => ()) P W 0 (fun _ => true) false fuel t cs.toList = some (d, p)
  | [], _, _, n, d, hm => by cases hm
  | (n', d') :: r, ps, h, n, d, hm => by
    obtain ⟨g, t, cs, fuel, p, q, h1, h2, h3, h4, h5, _⟩ := h
    rcases List.mem_cons.1 hm with e | hm
    · injection e with e1 e2
      subst e1 e2
      exact ⟨g, t, cs, fuel, p, h1, h2, h3, h4⟩
    · exact laidVars_mem h5 n d hm
theorem var_heap {name : String} {g : Nat} {cs : Array Value} (hg : P.globalNamed name = some g) (h : W.var? P name = some cs) : ∃ T fr, W.heap[g]? = some (.cells cs T fr) := by
  unfold World.var? at h
  rw [hg] at h
  simp only [Option.bind_some] at h
  split at h
  · rename_i cs' T fr hh
    injection h with h
    subst h
    exact ⟨T, fr, hh⟩
  · cases h
theorem tab_at {l : List (String × DataW Unit)} {name : String} {k : IntKind} {zs : List Int} {g : Nat} {t e : TypeId} {n : Nat} (h : laidMet P l W) (hm : (name, Lib.tabData k zs) ∈ l)
    (hg : P.globalNamed name = some g) (hty : (P.globals[g]?).map (·.type) = some t) (ht : P.underlying t = some (.array n e)) (he : P.underlying e = some (.int k)) (hce : P.cellsOf e = 1) (hct : P.cellsOf t = n) :
    ∃ cs T fr, W.heap[g]? = some (.cells cs T fr) ∧ cs = (zs.map fun z => Value.int k z).toArray := by
  obtain ⟨ps, hl, _⟩ := h
  obtain ⟨g', t', cs, fuel, p, hg', ht', hvar, hd⟩ := laidVars_mem hl _ _ hm
  obtain rfl := Option.some.inj (hg.symm.trans hg')
  obtain rfl := Option.some.inj (hty.symm.trans ht')
  obtain ⟨T, fr, hh⟩ := var_heap hg hvar
  exact ⟨cs, T, fr, hh, by rw [← Lib.cells_of_tab ht he hce hct hd]⟩
theorem iface_at {l : List (String × DataW Unit)} {name : String} {d : DataW Unit} {g : Nat} {t : TypeId} {ms : Array (String × TypeId)} (h : laidMet P l W) (hm : (name, d) ∈ l)
    (hg : P.globalNamed name = some g) (hty : (P.globals[g]?).map (·.type) = some t) (ht : P.underlying t = some (.interface ms)) :
    ∃ cs T fr, W.heap[g]? = some (.cells cs T fr) ∧ ifaceCs cs := by
  obtain ⟨ps, hl, _⟩ := h
  obtain ⟨g', t', cs, fuel, p, hg', ht', hvar, hd⟩ := laidVars_mem hl _ _ hm
  obtain rfl := Option.some.inj (hg.symm.trans hg')
  obtain rfl := Option.some.inj (hty.symm.trans ht')
  obtain ⟨T, fr, hh⟩ := var_heap hg hvar
  refine ⟨cs, T, fr, hh, ?_⟩
  have key : ∀ cl : List Value, DataW.trod (fun _ => ()) P W 0 (fun _ => true) false fuel t cl = some (d, p) → cl = [.nilIface] ∨ ∃ u v, cl = [.iface u v] := by
    intro cl hd
    cases fuel with
    | zero => cases hd
    | succ fuel =>
      simp only [DataW.trod, ht] at hd
      split at hd
      all_goals first
        | (cases hd; done)
        | exact .inl rfl
        | exact .inr ⟨_, _, rfl⟩
        | (rename_i h1 h2; cases h1; done)
        | (rename_i h1; cases h1; done)
        | skip
  rcases key _ hd with h | ⟨u, v, h⟩
  · exact ⟨.nilIface, by rw [← Array.toArray_toList (xs := cs), h], .inl rfl⟩
  · exact ⟨.iface u v, by rw [← Array.toArray_toList (xs := cs), h], .inr ⟨u, v, rfl⟩⟩
end Go.Ve
