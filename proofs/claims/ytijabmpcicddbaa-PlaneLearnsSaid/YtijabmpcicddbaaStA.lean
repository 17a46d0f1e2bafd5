/- slices.Backward over statics: what its iterator hands over. -/
import Derived.RangeFuncBox
import Derived.RangeFuncLeaves
import Derived.RangeFuncWrites
import Derived.RangeFuncNested
import Derived.Shelf.Abstract
import Derived.WalkKit
import Derived.OwnWalkIn
import Derived.TacticsInMore
import Derived.LoopNIn
import Derived.LoopIn
import Derived.Test.YtijabmpcicddbaaRows
set_option linter.unusedVariables false
set_option linter.unusedSimpArgs false
namespace Go.Proofs.Ytijabmpcicddbaa.Sta
open Go.RowKit Go.Shelf Go.Proofs
attribute [local go_sem] Oper.semAt_some
def upto {α : Type} (f : Nat → α) (k : Nat) : List α := (List.range k).map f
theorem upto_succ {α : Type} (f : Nat → α) (k : Nat) : upto f (k + 1) = upto f k ++ [f k] := by simp [upto, List.range_succ]
theorem upto_length {α : Type} (f : Nat → α) (k : Nat) : (upto f k).length = k := by simp [upto]
/-- address, VLAN, port of the j-th static -/
structure Z where
  m : Int
  v : Int
  p : Int
def Z.agg (z : Z) : Value := .agg #[.int .u64 z.m, .int .i64 z.v, .int .i64 z.p]
def enc (x : Int × Z) : Array Value := #[.int .i64 x.1, x.2.agg]
def item (len : Nat) (z : Nat → Z) (k : Nat) : Int × Z := ((len : Int) - 1 - (k : Int), z (len - 1 - k))
/-- the cells of the slice -/
def Cells (W : World) (b off len : Nat) (z : Nat → Z) : Prop := ∀ j, j < len → W.cell? ⟨b, off + j * 3, none⟩ = some (.int .u64 (z j).m) ∧ W.cell? ⟨b, off + j * 3 + 1, none⟩ = some (.int .i64 (z j).v) ∧ W.cell? ⟨b, off + j * 3 + 2, none⟩ = some (.int .i64 (z j).p)
/-- what lies below n₀ stays, but for the block mb -/
structure KB (n₀ mb : Nat) (A B : World) : Prop where
  size : A.heap.size ≤ B.heap.size
  kept : ∀ b, b < n₀ → b ≠ mb → B.heap[b]? = A.heap[b]?
  os : B.os = A.os
  tape : B.tape = A.tape
  output : B.output = A.output
theorem KB.refl (n₀ mb : Nat) (A : World) : KB n₀ mb A A := ⟨Nat.le_refl _, fun _ _ _ => rfl, rfl, rfl, rfl⟩
theorem KB.trans {n₀ mb : Nat} {A B C : World} (h : KB n₀ mb A B) (k : KB n₀ mb B C) : KB n₀ mb A C :=
  ⟨Nat.le_trans h.size k.size, fun b h1 h2 => (k.kept b h1 h2).trans (h.kept b h1 h2), k.os.trans h.os, k.tape.trans h.tape, k.output.trans h.output⟩
theorem KB.cell {n₀ mb : Nat} {A B : World} (h : KB n₀ mb A B) {p : Addr} (h1 : p.block < n₀) (h2 : p.block ≠ mb) : B.cell? p = A.cell? p := World.cell?_of_block (w := A) (h.kept _ h1 h2)
set_option maxRecDepth 100000 in
set_option maxHeartbeats 2000000 in
theorem back1_in (F : Fence) (n : Nat) (h8 : F.fn 85) (hro : F.round = none) (hn : 1 ≤ n) (l Bs n₀ mb b off len cap : Nat) (z : Nat → Z) (hreach : len * 24 ≤ 140737488351232) (hb : b < n₀) (hbm : b ≠ mb) (hBm : Bs ≠ mb) (J Jx : List (Int × Z) → World → Prop)
    (hY : ∀ pre x W, J pre W → pre.length < len → YieldAt F (n - 1) Try.prog l (enc x) W fun e W' =>
      (e = .returned (.bool true) ∧ J (pre ++ [x]) W' ∧ KB n₀ mb W W') ∨ (e = .returned (.bool false) ∧ Jx (pre ++ [x]) W'))
    (W : World) (hBs0 : Bs < n₀) (hBs : W.cell? ⟨Bs, 0, none⟩ = some (.slice (some ⟨b, off, none⟩) len cap)) (hc : Cells W b off len z) (h0 : J [] W) :
    CallsIn F n Try.prog 85 #[.func (.yield l) #[] #[], .pointer (some ⟨Bs, 0, none⟩)] W fun e W' => (∃ v, e = .returned v) ∧
      ((∃ ys, ys = upto (item len z) len ∧ J ys W') ∨ (∃ pre, (∃ k, k ≤ len ∧ pre = upto (item len z) k) ∧ Jx pre W')) := by
  refine callsIn_of_wp Try.func85 rfl h8 ?_ hro
  simp only [Try.ntmps85, List.size_toArray, List.length_cons, List.length_nil, Nat.reduceAdd, Nat.reduceSub, Array.replicate_succ, Array.replicate_zero, List.push_toArray, List.append_toArray, List.nil_append, List.cons_append]
  have hwl : IntKind.i64.wrap ((len : Int) - 1) = (len : Int) - 1 := by rw [IntKind.wrap_i64]; omega
  gi_wp2
  gi_loopw [3] (fun i wr => ∃ k q : Nat, k + q = len ∧ i = .int .i64 ((q : Int) - 1) ∧ J (upto (item len z) k) wr ∧ KB n₀ mb W wr)
    (fun i _ => (intOf i + 1).toNat)
  case atStart => exact ⟨0, len, by omega, rfl, h0, KB.refl _ _ _⟩
  case round =>
    obtain ⟨k, q, hk, rfl, hJs, hnx⟩ := hrel
    have hBs' : wr.cell? ⟨Bs, 0, none⟩ = some (.slice (some ⟨b, off, none⟩) len cap) := (hnx.cell (p := ⟨Bs, 0, none⟩) hBs0 hBm).trans hBs
    cases q with
    | zero =>
      obtain rfl : k = len := by omega
      gi_wp2
      go_end0
      exact ⟨⟨_, rfl⟩, .inl ⟨_, rfl, hJs⟩⟩
    | succ q =>
      have hq : ((q + 1 : Nat) : Int) - 1 = (q : Int) := by omega
      rw [hq]
      obtain ⟨c0, c1, c2⟩ := hc q (by omega)
      have d0 := (hnx.cell (p := ⟨b, off + q * 3, none⟩) hb hbm).trans c0
      have d1 := (hnx.cell (p := ⟨b, off + q * 3 + 1, none⟩) hb hbm).trans c1
      have d2 := (hnx.cell (p := ⟨b, off + q * 3 + 2, none⟩) hb hbm).trans c2
      have hit : item len z k = ((q : Int), z q) := by unfold item; rw [show len - 1 - k = q by omega]; congr 1; omega
      obtain ⟨fn, tmps, assign, body, hy, hR⟩ := hY _ (item len z k) wr hJs (by rw [upto_length]; omega)
      rw [hit] at hy
      unfold enc Z.agg at hy
      dsimp only at hy
      have hwq : IntKind.i64.wrap ((q : Int) - 1) = (q : Int) - 1 := by rw [IntKind.wrap_i64]; omega
      have hqn : ¬ (q : Int) < 0 := by omega
      have hqt : (q : Int).toNat = q := by omega
      have hlt : q < len := by omega
      gi_wp2
      refine hR.mono ?_
      rintro e W3 (⟨rfl, hJ3, hk3⟩ | ⟨rfl, hJx3⟩)
      · gi_wp2
        go_roundw
        case rel => exact ⟨k + 1, q, by omega, rfl, by rw [upto_succ]; exact hJ3, hnx.trans hk3⟩
        case measure => simp [intOf]
      · gi_wp2
        refine bodyPost_ret (results_none rfl _ _ _) rfl ?_
        exact ⟨⟨_, rfl⟩, .inr ⟨_, ⟨k + 1, by omega, (upto_succ _ _).symm⟩, hJx3⟩⟩
set_option maxRecDepth 100000 in
set_option maxHeartbeats 1000000 in
theorem back1_nil_in (F : Fence) (n : Nat) (h8 : F.fn 85) (hro : F.round = none) (l Bs : Nat) (J : List (Int × Z) → World → Prop) (W : World) (a : Option Addr) (cap : Nat) (hBs : W.cell? ⟨Bs, 0, none⟩ = some (.slice a 0 cap)) (h0 : J [] W) :
    CallsIn F n Try.prog 85 #[.func (.yield l) #[] #[], .pointer (some ⟨Bs, 0, none⟩)] W fun e W' => (∃ v, e = .returned v) ∧ J [] W' := by
  refine callsIn_of_wp Try.func85 rfl h8 ?_ hro
  simp only [Try.ntmps85, List.size_toArray, List.length_cons, List.length_nil, Nat.reduceAdd, Nat.reduceSub, Array.replicate_succ, Array.replicate_zero, List.push_toArray, List.append_toArray, List.nil_append, List.cons_append]
  gi_wp2
  gi_loopw [3] (fun i wr => i = .int .i64 (-1) ∧ J [] wr) (fun _ _ => 0)
  case atStart => exact ⟨rfl, h0⟩
  case round =>
    obtain ⟨rfl, hJs⟩ := hrel
    gi_wp2
    go_end0
    exact ⟨⟨_, rfl⟩, hJs⟩
set_option maxHeartbeats 1000000 in
theorem back_in (F : Fence) (n : Nat) (h6 : F.fn 65) (hro : F.round = none) (a : Option Addr) (len cap : Nat) (w : World) :
    CallsIn F n Try.prog 65 #[.slice a len cap] w fun e w' => e = .returned (.func (.func 85) #[] #[.pointer (some ⟨w.heap.size, 0, none⟩)]) ∧ w' = w.alloc (.cells #[.slice a len cap] 24) := by
  refine callsIn_of_wp Try.func65 rfl h6 ?_ hro
  simp only [Try.ntmps65, List.size_toArray, List.length_cons, List.length_nil, Nat.reduceAdd, Nat.reduceSub, Array.replicate_succ, Array.replicate_zero, List.push_toArray, List.append_toArray, List.nil_append, List.cons_append]
  gi_wp2
  go_ret
  exact ⟨rfl, rfl⟩
/-- the slice value holds the statics, in a block below n₀ that is not mb; or it is nil and there are none -/
def Holds (n₀ mb : Nat) (W : World) (sv : Value) (len : Nat) (z : Nat → Z) : Prop :=
  (len = 0 ∧ ∃ a cap, sv = .slice a 0 cap) ∨ ∃ b off cap, sv = .slice (some ⟨b, off, none⟩) len cap ∧ b < n₀ ∧ b ≠ mb ∧ Cells W b off len z
theorem Holds.kept {n₀ mb : Nat} {A B : World} (h : ∀ b, b < n₀ → b ≠ mb → B.heap[b]? = A.heap[b]?) {sv : Value} {len : Nat} {z : Nat → Z} : Holds n₀ mb A sv len z → Holds n₀ mb B sv len z
  | .inl e => .inl e
  | .inr ⟨b, off, cap, e, hb, hm, hc⟩ => .inr ⟨b, off, cap, e, hb, hm, fun j hj => ⟨(World.cell?_of_block (w := A) (h b hb hm)).trans (hc j hj).1, (World.cell?_of_block (w := A) (h b hb hm)).trans (hc j hj).2.1, (World.cell?_of_block (w := A) (h b hb hm)).trans (hc j hj).2.2⟩⟩
theorem back_stops (F : Fence) (n : Nat) (h8 : F.fn 85) (hro : F.round = none) (hn : 1 ≤ n) (Bs n₀ mb len : Nat) (sv : Value) (z : Nat → Z) (hreach : len * 24 ≤ 140737488351232) (w : World) (hBn : Bs < n₀) (hBm : Bs ≠ mb) (hn₀ : n₀ ≤ w.heap.size) 
    (hc : w.cell? ⟨Bs, 0, none⟩ = some sv) (hI : Holds n₀ mb w sv len z) :
    SeqStopsK F n Try.prog 85 #[.pointer (some ⟨Bs, 0, none⟩)] enc (KB n₀ mb) (fun ys => ys = upto (item len z) len)
      (fun pre => ∃ k, k ≤ len ∧ pre = upto (item len z) k) len w := fun l J Jx W hW _ _ hY h0 => by
  have hkeep : ∀ b, b < n₀ → b ≠ mb → ∀ j, W.cell? ⟨b, j, none⟩ = w.cell? ⟨b, j, none⟩ := fun b hb _ j => hW.cell (p := ⟨b, j, none⟩) (Nat.lt_of_lt_of_le hb hn₀)
  have hc' : W.cell? ⟨Bs, 0, none⟩ = some sv := (hkeep Bs hBn hBm 0).trans hc
  rcases hI with ⟨rfl, a, cap, rfl⟩ | ⟨b, off, cap, rfl, hb, hbm, hcs⟩
  · exact (back1_nil_in F n h8 hro l Bs J W a cap hc' h0).mono fun e W' ⟨he, hj⟩ => ⟨he, .inl ⟨_, rfl, hj⟩⟩
  · exact back1_in F n h8 hro hn l Bs n₀ mb b off len cap z hreach hb hbm hBm J Jx hY W hBn hc' (fun j hj => ⟨(hkeep b hb hbm _).trans (hcs j hj).1, (hkeep b hb hbm _).trans (hcs j hj).2.1, (hkeep b hb hbm _).trans (hcs j hj).2.2⟩) h0
end Go.Proofs.Ytijabmpcicddbaa.Sta
