/- vlan.Members: the walk: a map's keys are gathered, and put in order. -/
import Derived.Test.YtijabmpcicddbaaMemA
import Derived.Test.YtijabmpcicddbaaSeat
import Derived.Test.YtijabmpcicddbaaShelf
import Derived.Maps.AppendAt
import Derived.WalkKit
import Derived.OwnWalkIn
import Derived.TacticsIn
import Derived.TacticsInMore
import Derived.RegionIn
import Derived.LoopNIn
import Derived.LoopIn
set_option linter.unusedVariables false
set_option linter.unusedSimpArgs false
namespace Go.Proofs.Ytijabmpcicddbaa.Mem
open Go.RowKit Go.Maps Go.Sort Go.Proofs
open Go.Ve (Stm)
def keyI (e : MapEntry) : Int := match e.key with | .int _ n => n | _ => 0
theorem info3 : (Try.prog.info? 3).map (fun i => (i.zero, i.size, i.bytes)) = some (some (.int .i64 0), 1, 8) := by kernel_rfl
theorem info_parts' {i : Option TypeInfo} {z : Option Value} {s b : Nat} (h : i.map (fun i => (i.zero, i.size, i.bytes)) = some (z, s, b)) : ∃ i0, i = some i0 ∧ i0.zero = z ∧ i0.size = s ∧ i0.bytes = b := by
  cases i with
  | none => cases h
  | some i0 =>
    simp only [Option.map_some, Option.some.injEq, Prod.mk.injEq] at h
    exact ⟨i0, rfl, h.1, h.2.1, h.2.2⟩
theorem iter_ne_row {w : World} {b r base : Nat} {es : Array MapEntry} {cl : Nat} {σ : List MapEntry} {v : Value} {n : Nat} {xs : List Value} {e size : Nat} (h : Rng w b r es cl σ) (hr : w.ownsRow base e size v n xs) : some r ≠ v.ownBlock ∧ some b ≠ v.ownBlock := by
  obtain ⟨_, _, _, hi, _⟩ := h.i
  rcases hr.2 with ⟨hv, _⟩ | ⟨g, cap, cur, hv, _, hb, _⟩
  · rw [hv]; exact ⟨fun h => (by cases h), fun h => (by cases h)⟩
  · rw [hv]
    refine ⟨fun h => ?_, fun h2 => ?_⟩
    · have e : r = g := Option.some.inj h
      rw [e, hb] at hi; cases hi
    · have e : b = g := Option.some.inj h2
      rw [← e, h.m] at hb; cases hb
set_option maxRecDepth 100000 in
set_option maxHeartbeats 2000000 in
theorem members_in (Φ : World → Nat → Array MapEntry → Nat → Prop) (x0 x1 x2 x3 x4 x5 vl : Value) (w : World)
    (hc : CallsIn Fence.wide 3 Try.prog 39 #[.agg #[x0, x1, x2, x3, x4, x5], vl] (w.alloc (.cells #[x0, x1, x2, x3, x4, x5] 26)) fun e w' => ∃ b es cl, e = .returned (.map (some b)) ∧ w'.heap[b]? = some (.map es cl) ∧ Stm es cl ∧ (∀ x ∈ es.toList, x.key = .int .i64 (keyI x)) ∧ es.size ≤ 1000000 ∧ Φ w' b es cl) :
    CallsIn Fence.wide 4 Try.prog 18 #[.agg #[x0, x1, x2, x3, x4, x5], vl] w fun e W' => ∃ (w1 : World) (b : Nat) (es : Array MapEntry) (cl : Nat) (v : Value), Φ w1 b es cl ∧ e = .returned v ∧ W'.ownsRow w1.heap.size 3 1 v (sortI (es.toList.map keyI)).length ((sortI (es.toList.map keyI)).map (Value.int .i64)) ∧ (v = .slice none 0 0 ↔ sortI (es.toList.map keyI) = []) ∧ Below w1.heap.size w1 W' := by
  obtain ⟨i0, hi, hz0, hz1, hz2⟩ := info_parts' info3
  refine callsIn_of_wp Try.func18 rfl trivial ?_ rfl
  simp only [Try.ntmps18, List.size_toArray, List.length_cons, List.length_nil, Nat.reduceAdd, Nat.reduceSub, Array.replicate_succ, Array.replicate_zero, List.push_toArray, List.append_toArray, List.nil_append, List.cons_append]
  have h39 : Fence.wide.fn 39 := trivial
  have h44 : Fence.wide.fn 44 := trivial
  gi_wp2_with (first
    | (gi_at_call 39; refine hc.mono ?_; rintro e w1 ⟨b, es, cl, rfl, hb, hst, hkey, hsz, hΦ⟩)
    | (gi_at_range; refine wpListIn_range_raw _ rfl _ 95 rfl 3 93 Try.underlying95 b es cl rfl hb hst ?_; intro w0 hrg0 hg0 hs0)
    | gi_in)
  go_frame
  gi_loopw [5] (fun v wr => ∃ σ : List MapEntry, Rng wr b w1.heap.size es cl σ ∧ wr.ownsRow w1.heap.size 3 1 v σ.length ((σ.map keyI).map (Value.int .i64)) ∧ (v = .slice none 0 0 ↔ σ = []) ∧ Below w1.heap.size w1 wr)
    (fun _ wr => wr.rangeLeft b w1.heap.size)
  case atStart =>
    exact ⟨[], hrg0, ⟨rfl, .inl ⟨rfl, rfl⟩⟩, ⟨fun _ => rfl, fun _ => rfl⟩, (Below.refl _ _).grown hg0 (Nat.le_refl _) (fun j hj => by cases hj)⟩
  case round =>
    obtain ⟨σ, hrg, hrow, hnil, hbe⟩ := hrel
    gi_wp2_with (first
      | (gi_at_next; refine wpListIn_next_raw _ rfl _ rfl b w1.heap.size es cl σ rfl hrg hst ?_ ?_)
      | gi_in)
    · intro hperm
      have hss : ((σ.map keyI).mergeSort fun x y => decide (x ≤ y)) = sortI (es.toList.map keyI) := merge_eq (hperm.map keyI)
      have hlen : (sortI (es.toList.map keyI)).length = σ.length := by rw [(sortI_perm _).length_eq, List.length_map, hperm.length_eq]
      rcases hrow.2 with ⟨hv, hn⟩ | ⟨g, cap, cur, hv, hbase, hbk, h1, h2, h3, h4⟩
      · have hσ := hnil.1 hv
        subst hv
        have hc := callsIn_wide (n := 3) |>.2 (Try.slices_Sort_int_none none 0 wr)
        gi_wp2_with (gi_at_call 44; refine hc.mono ?_; rintro e w' ⟨rfl, rfl⟩)
        go_ret
        have hz : sortI (es.toList.map keyI) = [] := List.length_eq_zero_iff.1 (by rw [hlen, hσ]; rfl)
        refine ⟨w1, b, es, cl, _, hΦ, rfl, ?_, ?_, hbe⟩
        · rw [hz]; exact ⟨rfl, .inl ⟨rfl, rfl⟩⟩
        · rw [hz]; exact ⟨fun _ => rfl, fun _ => rfl⟩
      · subst hv
        have hne : σ ≠ [] := fun e => by have := hnil.2 e; cases this
        have hl : (σ.map keyI).length = σ.length := List.length_map _
        have hH : Holds (Value.int .i64) wr g 0 (σ.map keyI).toArray := holds_of_blockI hbk (by rw [hl]; simpa using h4)
        have hgl : g < wr.heap.size := (Array.getElem?_eq_some_iff.1 hbk).1
        have hc := callsIn_wide (n := 3) |>.2 (Try.slices_Sort_int g 0 cap (σ.map keyI) wr hH hgl (by rw [hl, ← hlen, (sortI_perm _).length_eq, List.length_map, Array.length_toList]; omega))
        rw [hl, hss] at hc
        gi_wp2_with (gi_at_call 44; refine hc.mono ?_; rintro e w' ⟨rfl, nn, os, rfl⟩)
        go_ret
        have ho := ownsRow_sortedI (os := os) (n := nn) (ss := σ.map keyI) (ts := sortI (es.toList.map keyI)) (hlen.trans hl.symm) hbase hbk (by rw [hl]; exact h1) h2 h3
        rw [hl] at ho
        refine ⟨w1, b, es, cl, _, hΦ, rfl, ?_, ⟨fun h => (by cases h), fun h => absurd (by rw [h] at hlen; exact (List.length_eq_zero_iff.1 hlen.symm)) hne⟩, hbe.grown (grownBy_sortedI _) hbe.size (fun j hj => by cases hj; exact hbase)⟩
        rw [hlen]
        exact ho
    · intro x hx w2 hrg2 hg2 hs2 hen hlt
      have hx : x ∈ es.toList := by simpa using hx
      rw [hkey x hx] at hen ⊢
      have hrow2 := hrow.kept hg2 (Or.inr (iter_ne_row hrg hrow).1.symm)
      have hσl : σ.length + 1 ≤ 1000000 := by
        have := hrg2.len
        rw [List.length_append, List.length_singleton] at this
        omega
      clear hs2
      gi_wp2_with (first
        | (gi_at_builtin; refine wpListIn_append_own _ rfl _ _ 45 rfl w1.heap.size 3 i0 (.int .i64 0) 1 8 Try.underlying45 hi hz0 hz1 hz2 rfl (by decide) _ _ _ rfl (hrow2.alloc _) ⟨w2.heap.size, 0, none⟩ 1 1 [.int .i64 (keyI x)] rfl rfl (cell_one_new _ _ _) (by simp [Value.oneCell']) (by unfold maxLen; omega) (by omega) (by have := hbe.size; have := hg2.size; simp; omega) ?_; intro v' w3 hown' hg3 hnil3; go_frame)
        | gi_in)
      have hne2 := iter_ne_row (hrg2.kept (World.grownBy_alloc w2 _ none) (by simp) (by simp)) (hrow2.alloc (.cells #[.int .i64 (keyI x)] 3))
      have hrg3 := (hrg2.kept (World.grownBy_alloc w2 _ none) (by simp) (by simp)).kept hg3 hne2.2 hne2.1
      go_roundw
      case rel =>
        refine ⟨σ ++ [x], hrg3, by simpa using hown', ⟨fun hv' => by have := (hnil3.1 hv').2; omega, fun h => by simp at h⟩, ?_⟩
        exact ((hbe.grown hg2 hbe.size (fun j hj => by cases hj; omega)).alloc (by have := hbe.size; have := hg2.size; omega) _).grown hg3 (by have := hbe.size; have := hg2.size; simp; omega) (fun j hj => (hrow2.lt j hj).1)
      case measure =>
        have ha := hrg2.kept (World.grownBy_alloc w2 (.cells #[.int .i64 (keyI x)] 3) none) (by simp) (by simp)
        rw [ha.left hg3 hne2.2 hne2.1, hrg2.left (World.grownBy_alloc w2 _ none) (by simp) (by simp)]
        exact hlt
end Go.Proofs.Ytijabmpcicddbaa.Mem
