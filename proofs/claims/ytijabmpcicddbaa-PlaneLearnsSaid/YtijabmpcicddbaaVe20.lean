/- The evaluator ("VE"): from what it answers to the statement. -/
import Derived.Test.YtijabmpcicddbaaVe19
import Derived.Carry
import Derived.ChangeSame
import Derived.RowKit
set_option linter.unusedVariables false
set_option linter.unusedSimpArgs false
namespace Go.Ve
open Go.ChangeShapes Go.WideShapes Go.ChangeAt Go.RowKit
section
variable {H : Type} {enc : TypeId × Value → H} {P : Program}

def isAggT (P : Program) (t : Nat) : Bool := match P.underlying t with
  | some (.struct _) | some (.array _ _) => true
  | _ => false
/-- an argument, from its data -/
def targ (P : Program) (n t : Nat) (d : DataW H) : AV := bif isAggT P t then .v (.agg ((tpv P n t d).map .pv)) else match tpv P n t d with
  | [p] => .c (.pv p)
  | _ => .tup []
def targs (P : Program) (n : Nat) : List Nat → List (DataW H) → List AV
  | t :: ts, d :: ds => targ P n t d :: targs P n ts ds
  | _, _ => []
/-- what is known of the arguments -/
def ArgsOk (P : Program) (n : Nat) : List Nat → List (DataW H) → Prop
  | t :: ts, d :: ds => (∀ p, p ∈ tpv P n t d → PvOk p) ∧ ArgsOk P n ts ds
  | _, _ => True

def E0 (w : World) : Env := ⟨fun _ => 0, fun _ => none, fun _ => False, w⟩
theorem E0_S {w : World} {b : Nat} : (E0 w).S b ↔ b < w.heap.size := ⟨fun h => h.1, fun h => ⟨h, fun h => h, fun id o h => by cases h⟩⟩
theorem E0_ok (w : World) (h : ∀ b p, (b, p) ∈ tabs → ∃ cs T fr, w.heap[b]? = some (.cells cs T fr) ∧ p cs) : (E0 w).ok := ⟨fun id o h => (by cases h), fun i j oi oj h => (by cases h), fun i o h => (by cases h), fun b h => h.elim, fun b p hb => by
  obtain ⟨cs, T, fr, hh, hp⟩ := h b p hb
  exact ⟨E0_S.2 (Array.getElem?_eq_some_iff.1 hh).1, cs, T, fr, hh, hp⟩⟩
theorem entry_rc {w : World} {p : PV} {x : Value} (h : RPO w p x) : RC (E0 w) (.pv p) x := RP.mono (fun b hb => E0_S.2 hb) (fun _ _ => rfl) h.1

theorem entry_arg {w : World} {base b0 : Nat} {spare : Nat → Bool} {held : Bool} {n t : Nat} {v : Value} {d : DataW H} {ps : List MemPlace} (he : entryB P n t = true) (hok : Value.okWide P w .any b0 t v) (hd : DataW.Trod enc P w base spare held t v d ps) :
    RA (E0 w) (targ P n t d) v ∧ ∀ p, p ∈ tpv P n t d → PvOk p := by
  obtain ⟨fuel, hf⟩ := hd
  have hl := entry_cells n t _ d ps fuel he hf
  refine ⟨?_, hl.of_mem fun a b h => h.2⟩
  unfold targ
  cases hag : isAggT P t with
  | true =>
    simp only [cond_true]
    have : ∃ cs, v = .agg cs := by
      unfold isAggT at hag
      unfold Value.okWide at hok
      split at hag
      · rename_i hu; simp only [hu] at hok; obtain ⟨cs, e, _⟩ := hok; exact ⟨cs, e⟩
      · rename_i hu; simp only [hu] at hok; obtain ⟨cs, e, _⟩ := hok; exact ⟨cs, e⟩
      · cases hag
    obtain ⟨cs, rfl⟩ := this
    have hl2 := hl.map (R' := RC (E0 w)) (f := CV.pv) (g := _root_.id) fun a b h => entry_rc h
    rw [List.map_id] at hl2
    exact ⟨cs, rfl, hl2⟩
  | false =>
    simp only [cond_false]
    have hone : ∃ p, tpv P n t d = [p] := by
      unfold isAggT at hag
      cases n with
      | zero => cases he
      | succ n =>
        simp only [entryB] at he
        simp only [tpv]
        cases hu : P.underlying t with
        | none => simp only [hu] at he; cases he
        | some k => simp only [hu] at he hag ⊢; cases k <;> first | exact ⟨_, rfl⟩ | (cases hag; done) | (exact absurd he (by simp))
    obtain ⟨p, hp⟩ := hone
    rw [hp] at hl ⊢
    generalize hc : v.cells.toList = cs at hl
    cases hl with
    | cons h1 h2 =>
      cases h2
      rename_i y
      have hy := RP.one h1.1
      have hvy : v = y := by
        cases v with
        | agg cs =>
          exfalso
          unfold Value.okWide at hok
          unfold isAggT at hag
          split at hok
          · rename_i hu; simp only [hu] at hag; cases hag
          · rename_i hu; simp only [hu] at hag; cases hag
          · unfold Cell.okWide at hok
            split at hok <;> first | contradiction | skip
            unfold Cell.ok at hok
            split at hok <;> first | contradiction | skip
        | _ => simpa [Value.cells] using hc
      subst hvy
      exact entry_rc h1

theorem entry_args {w : World} {base b0 : Nat} {spare : Nat → Bool} {held : Bool} {n : Nat} : ∀ {ts : List Nat} {vs : List Value} {ds : List (DataW H)} {ps : List MemPlace}, ts.all (entryB P n) = true → (∀ (j : Nat) (t : Nat) (v : Value), ts[j]? = some t → vs[j]? = some v → Value.okWide P w .any b0 t v) →
    DataW.TrodAll enc P w base spare held ts vs ds ps → RL (RA (E0 w)) (targs P n ts ds) vs ∧ ArgsOk P n ts ds ∧ ds.length = ts.length
  | [], vs, ds, ps, he, hok, hd => by
    obtain ⟨rfl, rfl, _⟩ := trodAll_nil hd
    exact ⟨.nil, trivial, rfl⟩
  | t :: ts, vs, ds, ps, he, hok, hd => by
    obtain ⟨v, vs', d, ds', p, q, rfl, rfl, rfl, h1, h2⟩ := trodAll_cons hd
    simp only [List.all_cons, Bool.and_eq_true] at he
    obtain ⟨k1, k2⟩ := entry_arg he.1 (hok 0 t v rfl rfl) h1
    obtain ⟨k3, k4, k5⟩ := entry_args he.2 (fun j t v ht hv => hok (j + 1) t v (by simpa using ht) (by simpa using hv)) h2
    exact ⟨.cons k1 k3, ⟨k2, k4⟩, by simp [k5]⟩

theorem args_again {W W' : World} (hl : laidOutB P = true) (hb : Below W.heap.size W W') : ∀ {ts : List Nat} {vs : List Value} {ds : List (DataW H)} {ps : List MemPlace}, (ts.all fun t => P.readableRec t && decide (t < P.types.size)) = true → (∀ p, p ∈ ps → p.block < W.heap.size) →
    DataW.TrodAll enc P W 0 (fun _ => true) true ts vs ds ps → ∀ sp : Nat → Bool, (∀ p ∈ ps, sp p.block = true) → DataW.TrodAll enc P W' 0 sp true ts vs ds ps
  | [], vs, ds, ps, he, hlt, hd, sp, hsp => by
    obtain ⟨rfl, rfl, rfl⟩ := trodAll_nil hd
    rfl
  | t :: ts, vs, ds, ps, he, hlt, hd, sp, hsp => by
    obtain ⟨v, vs', d, ds', p, q, rfl, rfl, rfl, h1, h2⟩ := trodAll_cons hd
    simp only [List.all_cons, Bool.and_eq_true, decide_eq_true_eq] at he
    exact ⟨p, q, WideElems.Trod_stays hl he.1.1 he.1.2 h1 (fun x hx => hb.same (hlt x (by simp [hx]))) (fun x hx => hsp x (by simp [hx])),
      args_again hl hb he.2 (fun x hx => hlt x (by simp [hx])) h2 sp (fun x hx => hsp x (by simp [hx])), rfl⟩

/-- THE GATE: where the evaluator answers true, the function answers true, and the arguments read as they did. -/
theorem gate {f : Nat} {fn : Func} {n tb : Nat} (hent : fn.params.toList.all (entryB P n) = true) (hlaid : laidOutB P = true) (hread : (fn.params.toList.all fun t => P.readableRec t && decide (t < P.types.size)) = true)
    (hres : fn.resultTypes = #[tb]) (htb : P.underlying tb = some .bool) {s : ChangeSpec} (hvars : s.vars = []) (hspec : ∀ ds : List (DataW H), ds.length = fn.params.toList.length → s.fn H ds = { results := [.lit (.bool true)], args := ds })
    {W : World} (hgl : ∀ b p, (b, p) ∈ tabs → ∃ cs T fr, W.heap[b]? = some (.cells cs T fr) ∧ p cs) {base : Nat} {args : Array Value} {ds gs : List (DataW H)} {before : List MemPlace} (hval : ∀ (j : Nat) t v, fn.params[j]? = some t → args[j]? = some v → Value.okWide P W .any base t v)
    (hW : DataW.Whole enc P fn.params.toList s.vars false W args.toList ds gs before)
    (main : gs = [] → ds.length = fn.params.toList.length → ArgsOk P n fn.params.toList ds → ∃ (call : VCall) (os : List AObj), CallSem P call ∧ ∀ k, call f (targs P n fn.params.toList ds) [] k = k (.b true) os) :
    Calls P f args W fun e W' => ∃ v, e = .returned v ∧ s.post enc P fn false true false false W args v W' := by
  have hW0 := hW
  obtain ⟨p, q, hA, hV, rfl, hfz, hnd⟩ := hW
  have hgs : gs = [] ∧ q = [] := by
    rw [hvars] at hV
    cases gs with
    | nil => exact ⟨rfl, hV⟩
    | cons => exact hV.elim
  obtain ⟨rfl, rfl⟩ := hgs
  obtain ⟨hargs, hok, hlen⟩ := entry_args (n := n) (b0 := base) hent (fun j t v ht hv => hval j t v (by simpa using ht) (by simpa using hv)) hA
  obtain ⟨call, os, hsem, hrun⟩ := main rfl hlen hok
  obtain ⟨v, os', h1, h2, h3⟩ := hsem f _ [] (fun v os => some (v, os)) (.b true, os) (hrun _)
  injection h1 with h1
  injection h1 with h1 h1'
  subst h1
  subst h1'
  have hc := h3.run (E0 W) args.toList (E0_ok W hgl) (fun id => by simp [E0]) hargs
  rw [Array.toArray_toList] at hc
  refine Calls.mono hc fun e W' he => ?_
  obtain ⟨x, E', rfl, rfl, k1, k2, k3, k4⟩ := he
  have hx : x = .bool true := k3.1
  subst hx
  have hb : Below W.heap.size W E'.w := ⟨k4.os, k4.tape, k4.output, k4.size, fun k hk => k4.c k (E0_S.2 hk)⟩
  have hlt : ∀ x, x ∈ p → x.block < W.heap.size := fun x hx => hW0.lt x (by simpa using hx)
  have hsp : s.fn H (ds ++ []) = { results := [.lit (.bool true)], args := ds } := by rw [List.append_nil]; exact hspec ds hlen
  have hargs' : ∀ sp : Nat → Bool, (∀ x ∈ p, sp x.block = true) → DataW.TrodAll enc P E'.w 0 sp true fn.params.toList args.toList ds p := fun sp hs => args_again hlaid hb hread hlt hA sp hs
  have hresT : ∀ (b : Nat) (sp : Nat → Bool) (hd : Bool), DataW.TrodAll enc P E'.w b sp hd fn.resultTypes.toList ((Value.bool true).resultList fn.resultTypes.size) [.lit (.bool true)] [] := by
    intro b sp hd
    rw [hres]
    exact trodAll_cons_mk (shut_bool htb _) trodAll_mk0
  refine ⟨_, rfl, ds, [], p ++ [], [], p, [], hW0, ?_, ?_, ?_, hb.frame _, fun hag => by cases hag⟩
  · rw [hsp]; exact hresT _ _ _
  · rw [hsp]
    exact hargs' _ fun x hx => by simpa using hlt x hx
  · rw [hsp, hvars]
    rfl
end
end Go.Ve
