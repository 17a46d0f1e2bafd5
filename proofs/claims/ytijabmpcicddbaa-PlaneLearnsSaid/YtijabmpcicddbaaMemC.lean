/- vlan.Members: a summary for the evaluator. -/
import Derived.Test.YtijabmpcicddbaaMemB
set_option linter.unusedVariables false
set_option linter.unusedSimpArgs false
namespace Go.Proofs.Ytijabmpcicddbaa
open Go.Ve Go.RowKit
open Mem (sortI rowI keyI sortI_perm)
def keysI (l : MapL) : List Int := l.map fun e => numOf (e.1.getD 0 (.val undef))
def memRow (l : MapL) : Nat → Nat → PV := rowI (sortI (keysI l))
def membersSm (g : Sm) : Sm := fun args hs => match args with
  | [.v (.agg [c0, c1, c2, c3, c4, c5]), a1] => match g [.v (.agg [c0, c1, c2, c3, c4, c5]), a1] hs with
    | none => none
    | some G => some fun k => G fun v os => match v with
      | .v (.c (.mp i)) => match os[i]? with
        | some (.mapo [.int .i64 z] false vc vs va l) => bif Nat.ble l.length 1000000 then k (.v (.c (.own os.length))) (os ++ [.parr false (Nat.beq l.length 0) (.int .i64 .nil) 1 l.length (memRow l)]) else none
        | _ => none
      | _ => none
  | _ => none
theorem env_quiet {E : Env} (hE : E.ok) {w' : World} (hb : Below E.w.heap.size E.w w') : (⟨E.ι, E.H, E.D, w'⟩ : Env).ok ∧ Ev E ⟨E.ι, E.H, E.D, w'⟩ ∧ ∀ m, EvM m E ⟨E.ι, E.H, E.D, w'⟩ := by
  have ev : Ev E ⟨E.ι, E.H, E.D, w'⟩ := by
    refine ⟨fun b ⟨h1, h2, h3⟩ => ⟨Nat.lt_of_lt_of_le h1 hb.size, h2, h3⟩, fun b h => hb.block b h.1, fun id q hq => rfl, fun id q hq => ⟨q, hq, by cases q <;> simp [Ve.shape], fun ⟨_, _, e⟩ => by subst e; rfl⟩, fun id q q' cs hq hq' hl ⟨T, fr, hk, hf⟩ => ?_⟩
    have e : q' = q := by
      have : E.H id = some q' := hq'
      rw [hq] at this; exact (Option.some.inj this).symm
    subst e
    exact ⟨cs, ⟨T, fr, (hb.block _ ((hE.obj id _ hq).lt hl)).trans hk, hf⟩, rfl⟩
  exact ⟨⟨fun id q hq => (hE.obj id q hq).mono ev hq fun hl => hb.block _ ((hE.obj id q hq).lt hl), hE.inj, hE.out, fun b h => Nat.lt_of_lt_of_le (hE.dom b h) hb.size, hE.gl.mono ev.s ev.c⟩, ev,
    fun m => ⟨ev.s, ev.c, rfl, fun b h => hb.block b (hE.dom b h), hb.os, hb.tape, hb.output, hb.size, fun id _ => ev.i id, fun id _ => ev.h id, fun id _ => ev.z id⟩⟩
theorem evm_le {m n : Nat} {E E' : Env} (h : EvM n E E') (hl : m ≤ n) : EvM m E E' := ⟨h.s, h.c, h.D, h.dom, h.os, h.tape, h.output, h.size, fun id hm => h.i id (Nat.lt_of_lt_of_le hm hl), fun id hm => h.h id (Nat.lt_of_lt_of_le hm hl), fun id hm => h.z id (Nat.lt_of_lt_of_le hm hl)⟩
theorem keys_eq {E : Env} {z : Int} {vc : CK} {vs : Nat} {va : Bool} : ∀ {l : MapL} {es : List MapEntry}, RL (ME E [.int .i64 z] false vc vs va) l es → es.map keyI = keysI l ∧ ∀ x ∈ es, x.key = .int .i64 (keyI x)
  | _, _, .nil => ⟨rfl, fun x h => absurd h List.not_mem_nil⟩
  | p :: l, e :: es, .cons h hl => by
    obtain ⟨m1, _, _, m4, _⟩ := h
    obtain ⟨q, hq, m5⟩ := m4
    rw [hq] at m1
    simp only [keyIs, Bool.and_true] at m1
    obtain ⟨i1, i2⟩ := keys_eq hl
    rcases pvIs_val m1 with ⟨k, n, rfl, n', hz⟩ | ⟨_, _, _, hz⟩ | ⟨_, _, _, hz⟩
    · injection hz with hk _
      subst hk
      obtain ⟨hek, _⟩ := m5
      refine ⟨?_, fun x hx => ?_⟩
      · show keyI e :: es.map keyI = numOf (p.1.getD 0 (.val undef)) :: keysI l
        rw [i1, hq]
        congr 1
        show keyI e = n
        unfold keyI
        rw [hek]
      · rcases List.mem_cons.1 hx with rfl | hx
        · unfold keyI; rw [hek]
        · exact i2 x hx
    · cases hz
    · cases hz
theorem members_sum {g : Sm} (hg : SumOk Try.prog 39 g) : SumOk Try.prog 18 (membersSm g) := by
  intro args hs G hG
  unfold membersSm at hG
  split at hG
  rotate_left
  · cases hG
  rename_i c0 c1 c2 c3 c4 c5 a1
  split at hG
  · cases hG
  rename_i G0 hG0
  injection hG with hG
  subst hG
  intro k r hr
  obtain ⟨v, os, hr1, hk, hcall⟩ := hg _ hs G0 hG0 _ r hr
  split at hr1
  rotate_left
  · cases hr1
  rename_i i
  split at hr1
  rotate_left
  · cases hr1
  rename_i z vc vs va l hos
  obtain ⟨hok, hr2⟩ := cond_some hr1
  refine ⟨_, _, hr2, fun k' => (hk _).trans (by dsimp only; rw [hos]; dsimp only; rw [hok, cond_true]), ⟨⟨_, Try.func18, by kernel_rfl, by kernel_rfl⟩, fun E vals hE hH hrl => ?_⟩⟩
  have hlen := Nat.le_of_ble_eq_true hok
  cases hrl with
  | @cons _ v0 _ _ h0 hrl =>
  cases hrl with
  | @cons _ v1 _ _ h1 hrl =>
  cases hrl
  have h0' := h0
  obtain ⟨cs, rfl, hcs⟩ := h0'
  generalize hcl : cs.toList = cl at hcs
  cases hcs with | @cons _ x0 _ _ _ hcs =>
  cases hcs with | @cons _ x1 _ _ _ hcs =>
  cases hcs with | @cons _ x2 _ _ _ hcs =>
  cases hcs with | @cons _ x3 _ _ _ hcs =>
  cases hcs with | @cons _ x4 _ _ _ hcs =>
  cases hcs with | @cons _ x5 _ _ _ hcs =>
  cases hcs
  obtain rfl : cs = #[x0, x1, x2, x3, x4, x5] := by apply Array.ext'; rw [hcl]
  have hbw : Below E.w.heap.size E.w (E.w.alloc (.cells #[x0, x1, x2, x3, x4, x5] 26)) := (Below.refl _ _).alloc (Nat.le_refl _) _
  obtain ⟨hE1, ev1, em1⟩ := env_quiet hE hbw
  have hr1' : RL (RA ⟨E.ι, E.H, E.D, E.w.alloc (.cells #[x0, x1, x2, x3, x4, x5] 26)⟩) [.v (.agg [c0, c1, c2, c3, c4, c5]), a1] [.agg #[x0, x1, x2, x3, x4, x5], v1] := .cons (RA.mono ev1 h0) (.cons (RA.mono ev1 h1) .nil)
  have hc := hcall.run ⟨E.ι, E.H, E.D, E.w.alloc (.cells #[x0, x1, x2, x3, x4, x5] 26)⟩ _ hE1 hH hr1'
  let Φ : World → Nat → Array MapEntry → Nat → Prop := fun w' b es _ => ∃ E', E'.w = w' ∧ E'.ok ∧ (∀ id, E'.H id = os[id]?) ∧ EvM hs.length ⟨E.ι, E.H, E.D, E.w.alloc (.cells #[x0, x1, x2, x3, x4, x5] 26)⟩ E' ∧ es.toList.map keyI = keysI l
  have hwalk := Mem.members_in Φ x0 x1 x2 x3 x4 x5 v1 E.w (callsIn_wide.2 (hc.mono fun e w' ⟨x, E', he, hw, hE', hH', hx, hm⟩ => by
    have hi := (hH' i).trans hos
    obtain ⟨es, cl, hb, hl, hst⟩ := hE'.obj i _ hi
    simp only [RA, RV, RC, hi] at hx
    subst hx
    obtain ⟨k1, k2⟩ := keys_eq hl
    have hes := hl.length
    have hes2 : es.toList.length = es.size := Array.length_toList
    exact ⟨E'.ι i, es, cl, he, by rw [← hw]; exact hb, hst, k2, (by rw [← hes2, ← hes]; exact hlen), E', hw, hE', hH', hm, k1⟩))
  refine (callsIn_wide.1 hwalk).mono fun e w' ⟨w1, b, es, cl', v, ⟨E', hw1, hE', hH', hm, hkeys⟩, he, hrow, hnil, hbe⟩ => ?_
  rw [hkeys] at hrow hnil
  subst hw1
  have hn : (sortI (keysI l)).length = l.length := by rw [(sortI_perm _).length_eq]; simp [keysI]
  obtain ⟨gb, hgb, hown⟩ : ∃ gb, E'.w.heap.size ≤ gb ∧ ∀ g, v.ownBlock = some g → gb = g := by
    rcases hrow.2 with ⟨hv, _⟩ | ⟨g, cap, cur, hv, hbase, _⟩
    · exact ⟨E'.w.heap.size, Nat.le_refl _, fun g hg => by rw [hv] at hg; cases hg⟩
    · exact ⟨g, hbase, fun g' hg => by rw [hv] at hg; exact Option.some.inj hg⟩
  have hro := fun (E2 : Env) (h2 : E2.w = w') (h3 : E2.ι os.length = gb) => Mem.row_ro (E' := E2) (id := os.length) (by rw [h2]; exact hrow) hnil (fun g hg => h3.trans (hown g hg))
  rw [hn] at hro
  obtain ⟨E2, q1, q2, q3, q4, q5⟩ := Mem.env_new hE' hH' hbe hgb (o := .parr false (Nat.beq l.length 0) (.int .i64 .nil) 1 l.length (memRow l)) fun E2 h2 h3 => (hro E2 h2 h3).1
  have hle : hs.length ≤ os.length := by
    rcases Nat.eq_zero_or_pos hs.length with h | h
    · omega
    · have hlast : hs[hs.length - 1]? = some hs[hs.length - 1] := List.getElem?_eq_getElem (by omega)
      obtain ⟨o', ho', _⟩ := hm.h (hs.length - 1) (by omega) _ ((hH _).trans hlast)
      rw [hH'] at ho'
      have := (List.getElem?_eq_some_iff.1 ho').1
      omega
  exact ⟨v, E2, he, q1, q2, q3, (hro E2 q1 q4).2 (by rw [q3, List.getElem?_append_right (Nat.le_refl _), Nat.sub_self]; rfl), ((em1 hs.length).trans hm).trans (evm_le q5 hle)⟩
/-- a function's own run, as its summary -/
def viaRun (call : VCall) (f : Nat) : Sm := fun args hs => some (call f args hs)
theorem viaRun_ok {P : Program} {call : VCall} (h : CallSem P call) (f : Nat) : SumOk P f (viaRun call f) := fun args hs G hG k r hr => by
  injection hG with hG
  subst hG
  exact h f args hs k r hr
noncomputable def membersR : Sm := membersSm (viaRun (runS tt (has eql) Try.prog.funcs 100000 [] [] opts 40) 39)
theorem membersR_ok : SumOk Try.prog 18 membersR := members_sum (viaRun_ok (runS_ok ttOk eqOk mixed (names_ok namesOk) (S := []) sums_nil hooks_nil opts 40) 39)
end Go.Proofs.Ytijabmpcicddbaa
