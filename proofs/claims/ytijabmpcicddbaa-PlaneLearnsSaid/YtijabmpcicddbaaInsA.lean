/- slices.Insert of one element of four cells: what the code does to the world. -/
import Derived.Test.YtijabmpcicddbaaVe35
import Derived.Test.YtijabmpcicddbaaRows
import Derived.Test.YtijabmpcicddbaaTt
import Derived.WalkKit
import Derived.WalkSpells
import Derived.Shelf.Spec.SlicesInsert
import Derived.Lib.AppendZerosOnto
set_option linter.unusedVariables false
set_option linter.unusedSimpArgs false
namespace Go.Proofs.Ytijabmpcicddbaa.Ins
open Go.RowKit Go.Lib Go.Shelf Go.Proofs
theorem run_copyK {P : Program} (w : World) (dT sT ty elem : TypeId) (b o dLen dCap : Nat) (a : Addr) (sLen sCap z N : Nat) (cs : List Value)
    (hu : P.underlying dT = some (.slice elem)) (hs : (P.info? elem).map (·.size) = some z) (hN : Nat.min sLen dLen = N) (hn : cs.length = N * z)
    (hsrc : ∀ j v, cs[j]? = some v → w.cell? (a.add j) = some v) (hc : ∀ j, j < cs.length → (w.cell? ⟨b, o + j, none⟩).isSome = true) (hf : ∀ j, j < cs.length → w.frozen? ⟨b, o + j, none⟩ = false) (h1 : ∀ v ∈ cs, v.oneCell' = true) :
    (Builtin.copy_ #[dT, sT] ty #[.slice (some ⟨b, o, none⟩) dLen dCap, .slice (some a) sLen sCap]).run P w = .ok (goInt N) (w.setCells b o cs) := by
  have hl := run_loadCells_list (P := P) w a cs hsrc
  have hst := run_storeCells_cells (P := P) b o cs 0 w (by simpa using hc) (by simpa using hf) h1
  cases hq : P.info? elem with
  | none => simp [hq] at hs
  | some i =>
    have hi : i.size = z := by simpa [hq] using hs
    simp [Builtin.copy_, run_underlying hu, Builtin.lenOf, Builtin.firstCells, sizeOf, typeInfo, hq, hi, hN, ← hn, hl, hst]
set_option maxHeartbeats 4000000 in
set_option maxRecDepth 100000 in
theorem shift (b n c i vb vo vc : Nat) (cs vs : List Value) (w : World) (hi : i < n) (hroom : n + 1 ≤ c) (hn63 : n + 1 ≤ 1152921504606846976) (hvb : vb ≠ b)
    (hcl : cs.length = n * 4) (hvl : vs.length = 4)
    (hcs : ∀ j v, cs[j]? = some v → w.cell? ⟨b, j, none⟩ = some v) (hsp : ∀ j, j < (n + 1) * 4 → (w.cell? ⟨b, j, none⟩).isSome = true) (hfz : ∀ j, j < (n + 1) * 4 → w.frozen? ⟨b, j, none⟩ = false)
    (hvs : ∀ j v, vs[j]? = some v → w.cell? ⟨vb, vo + j, none⟩ = some v) (h1c : ∀ v ∈ cs, v.oneCell' = true) (h1v : ∀ v ∈ vs, v.oneCell' = true)
    (tA tB : TypeId) (kA kB : Nat) (hsa : w.shape? vb = some (tA, kA)) (hsb : w.shape? b = some (tB, kB)) (hkB : kB ≠ 0) (hfa : w.frozen? ⟨vb, vo, none⟩ = false) (hfe : w.frozen? ⟨vb, kA, none⟩ = false) :
    Calls Try.prog 56 #[.slice (some ⟨b, 0, none⟩) n c, .int .i64 i, .slice (some ⟨vb, vo, none⟩) 1 vc] w fun e w' =>
      e = .returned (.slice (some ⟨b, 0, none⟩) (n + 1) c) ∧ w' = (w.drew.setCells b ((i + 1) * 4) (cs.drop (i * 4))).setCells b (i * 4) vs := by
  have hov : ∀ o lb cb, (callFunc 76 #[.slice (some ⟨vb, vo, none⟩) 1 vc, .slice (some ⟨b, o, none⟩) lb cb]).run Try.prog w = .ok (.value (.bool false)) w := fun o lb cb => by
    rw [run_callFunc_extern Try.func76 (by kernel_rfl) (by kernel_rfl) (by kernel_rfl) (e := Extern.SlicesOverlaps.overlaps #[78, 78] #[4]) (by kernel_rfl),
      Lib.run_overlaps_apart w 78 4 113 Try.underlying78 4 Try.sizeOf113 ⟨vb, vo, none⟩ ⟨b, o, none⟩ 1 vc lb cb hvb tA tB kA kB hsa hsb hkB hfa hfe]
    rfl
  have mixed : Try.prog.follows Departure.mixedOrders = true := by kernel_rfl
  have hsz : (Try.prog.info? 113).map (·.size) = some 4 := by kernel_rfl
  have hz1 : ¬ (((1 : Nat) : Int) = 0) := by omega
  have hz2 : ¬ ((i : Int) = (n : Int)) := by omega
  have hdl : (cs.drop (i * 4)).length = (n - i) * 4 := by rw [List.length_drop, hcl, Nat.sub_mul]
  have hw1 : IntKind.i64.wrap ((i : Int) + 1) = (i : Int) + 1 := by rw [IntKind.wrap_i64]; omega
  have hb1 : (0 : Int) ≤ (i : Int) + 1 := by omega
  have hin : i ≤ n := by omega
  have htn : ((i : Int) + 1).toNat = i + 1 := by omega
  have hb2 : ¬ (c = i + 1) := by omega
  have hb3 : (i : Int) ≤ (n : Int) + 1 := by omega
  have hb4 : ¬ (c = i) := by omega
  have hcp1 : ∀ ty dc sc, (Builtin.copy_ #[78, 78] ty #[.slice (some ⟨b, (i + 1) * 4, none⟩) (n - i) dc, .slice (some ⟨b, i * 4, none⟩) (n + 1 - i) sc]).run Try.prog w.drew = .ok (goInt (n - i : Nat)) (w.drew.setCells b ((i + 1) * 4) (cs.drop (i * 4))) := fun ty dc sc =>
    run_copyK w.drew 78 78 ty 113 b ((i + 1) * 4) (n - i) dc ⟨b, i * 4, none⟩ (n + 1 - i) sc 4 (n - i) (cs.drop (i * 4)) Try.underlying78 hsz (by simp only [Nat.min_def]; split <;> omega) hdl
      (fun j v hj => by rw [Addr.add_lit]; exact hcs (i * 4 + j) v (by rwa [List.getElem?_drop] at hj))
      (fun j hj => hsp _ (by rw [hdl] at hj; omega)) (fun j hj => hfz _ (by rw [hdl] at hj; omega)) (fun v hv => h1c v (List.mem_of_mem_drop hv))
  obtain ⟨W1, hW1⟩ : ∃ W1, W1 = w.drew.setCells b ((i + 1) * 4) (cs.drop (i * 4)) := ⟨_, rfl⟩
  have hsp1 : ∀ k, k < (n + 1) * 4 → (W1.cell? ⟨b, k, none⟩).isSome = true := fun k hk => by
    rw [hW1]
    exact isSome_setCells b (cs.drop (i * 4)) ((i + 1) * 4) w.drew (fun j hj => hsp _ (by rw [hdl] at hj; omega)) _ (hsp k hk)
  have hcp2 : ∀ (W : World), (∀ x, W.cell? x = W1.cell? x) → (∀ x, W.frozen? x = W1.frozen? x) → ∀ ty dc, (Builtin.copy_ #[78, 78] ty #[.slice (some ⟨b, i * 4, none⟩) (n + 1 - i) dc, .slice (some ⟨vb, vo, none⟩) 1 vc]).run Try.prog W = .ok (goInt (1 : Nat)) (W.setCells b (i * 4) vs) := fun W hWc hWf ty dc =>
    run_copyK W 78 78 ty 113 b (i * 4) (n + 1 - i) dc ⟨vb, vo, none⟩ 1 vc 4 1 vs Try.underlying78 hsz (by simp only [Nat.min_def]; split <;> omega) hvl
      (fun j v hj => by
        rw [Addr.add_lit, hWc, hW1, World.cell?_setCells_out b _ _ _ _ (fun h _ => absurd h hvb)]
        exact hvs j v hj)
      (fun j hj => by rw [hWc]; exact hsp1 _ (by omega)) (fun j hj => by rw [hWf, hW1, World.frozen?_setCells]; exact hfz _ (by omega)) h1v
  rw [← hW1] at hcp1
  go_enter Try.func56, Try.ntmps56
  go_wp2_with (simp only [hov])
  go_region_law_o (refine step_copy_runI rfl _ _ 78 78 rfl _ _ (by simp [Act.eval, Act.put]) (by simp [Act.eval, Act.put]) (hcp1 _ _ _) ?_)
  go_wp2_with (at_builtin; refine wpList_copy_runI _ rfl _ _ 78 78 rfl _ _ rfl rfl (hcp2 _ (fun _ => rfl) (fun _ => rfl) _ _) ?_)
  go_ret
  first | exact ⟨rfl, rfl⟩ | exact ⟨rfl, by rw [hW1]⟩
theorem inf98 : ∃ i z, Try.prog.info? 113 = some i ∧ i.size = 4 ∧ i.bytes = 32 ∧ i.zero = some z ∧ z.cells.size = 4 := by
  have h1 : (Try.prog.info? 113).map (·.size) = some 4 := by kernel_rfl
  have h2 : (Try.prog.info? 113).map (·.bytes) = some 32 := by kernel_rfl
  have h3 : ((Try.prog.info? 113).bind (·.zero)).map (·.cells.size) = some 4 := by kernel_rfl
  cases h : Try.prog.info? 113 with
  | none => rw [h] at h1; cases h1
  | some i =>
    rw [h] at h1 h2 h3
    cases hz : i.zero with
    | none => simp [hz] at h3
    | some z =>
      simp [hz] at h3
      exact ⟨i, z, rfl, Option.some.inj h1, Option.some.inj h2, hz, h3⟩
set_option maxHeartbeats 4000000 in
set_option maxRecDepth 100000 in
theorem end_room (b n c vb vo vc : Nat) (vs : List Value) (w : World) (hroom : n + 1 ≤ c) (hn63 : n + 1 ≤ 1152921504606846976) (hvl : vs.length = 4)
    (hsp : ∀ j, j < 4 → (w.cell? ⟨b, n * 4 + j, none⟩).isSome = true) (hfz : ∀ j, j < 4 → w.frozen? ⟨b, n * 4 + j, none⟩ = false)
    (hvs : ∀ j v, vs[j]? = some v → w.cell? ⟨vb, vo + j, none⟩ = some v) (h1v : ∀ v ∈ vs, v.oneCell' = true) :
    Calls Try.prog 56 #[.slice (some ⟨b, 0, none⟩) n c, .int .i64 n, .slice (some ⟨vb, vo, none⟩) 1 vc] w fun e w' =>
      e = .returned (.slice (some ⟨b, 0, none⟩) (n + 1) c) ∧ w' = w.setCells b (n * 4) vs := by
  have mixed : Try.prog.follows Departure.mixedOrders = true := by kernel_rfl
  obtain ⟨i0, z0, hi0, hs0, hb0, hz0, hzs⟩ := inf98
  have hsrc : Src Try.prog i0.size 78 (.slice (some ⟨vb, vo, none⟩) 1 vc) 1 vs w := by
    rw [hs0]
    exact Src.ofSlice w Try.underlying78 ⟨vb, vo, none⟩ 1 vc vs (by omega) (fun j u hj => by rw [Addr.add_lit]; exact hvs j u hj) h1v
  have hrun : ∀ ty, (Builtin.append_ #[78, 78] ty #[.slice (some ⟨b, 0, none⟩) n c, .slice (some ⟨vb, vo, none⟩) 1 vc]).run Try.prog w = .ok (.slice (some ⟨b, 0, none⟩) (n + 1) c) (w.setCells b (n * 4) vs) := fun ty => by
    have h := run_append_room_src w 78 78 ty 113 i0 Try.underlying78 hi0 b 0 n c _ 1 vs hsrc hroom (by rw [hs0, hvl]; intro j hj; rw [Nat.zero_add]; exact hsp j hj) (by rw [hs0, hvl]; intro j hj; rw [Nat.zero_add]; exact hfz j hj)
    rw [hs0, Nat.zero_add] at h
    exact h
  clear hi0 hs0 hb0 hz0 hzs hsrc
  go_enter Try.func56, Try.ntmps56
  go_wp2_with (at_builtin; refine Lib.wpList_append_run _ rfl _ _ _ _ rfl _ _ rfl rfl _ _ (hrun _) ?_)
  go_ret
  exact ⟨rfl, rfl⟩
set_option maxHeartbeats 4000000 in
set_option maxRecDepth 100000 in
theorem end_grow (base : Option Addr) (n c vb vo vc : Nat) (cs vs : List Value) (w : World) (hnc : n ≤ c) (hroom : c < n + 1) (hbig : (n + 1) * 32 ≤ 140737488355328)
    (hcl : cs.length = n * 4) (hvl : vs.length = 4) (hnil : base = none → n = 0) (hb0 : ∀ a, base = some a → ∃ b, a = ⟨b, 0, none⟩)
    (hcs : ∀ b, base = some ⟨b, 0, none⟩ → ∀ j v, cs[j]? = some v → w.cell? ⟨b, j, none⟩ = some v)
    (hvs : ∀ j v, vs[j]? = some v → w.cell? ⟨vb, vo + j, none⟩ = some v) (h1v : ∀ v ∈ vs, v.oneCell' = true) :
    Calls Try.prog 56 #[.slice base n c, .int .i64 n, .slice (some ⟨vb, vo, none⟩) 1 vc] w fun e w' =>
      ∃ G zs, e = .returned (.slice (some ⟨w.heap.size, 0, none⟩) (n + 1) G) ∧ w' = w.drew.alloc (.cells ((cs ++ vs) ++ zs).toArray 113) ∧ n + 1 ≤ G ∧ ((cs ++ vs) ++ zs).length = G * 4 := by
  have mixed : Try.prog.follows Departure.mixedOrders = true := by kernel_rfl
  obtain ⟨i0, z0, hi0, hs0, hby, hz0, hzs⟩ := inf98
  have hsrc : Src Try.prog i0.size 78 (.slice (some ⟨vb, vo, none⟩) 1 vc) 1 vs w := by
    rw [hs0]
    exact Src.ofSlice w Try.underlying78 ⟨vb, vo, none⟩ 1 vc vs (by omega) (fun j u hj => by rw [Addr.add_lit]; exact hvs j u hj) h1v
  have hold : (Builtin.firstCells i0.size n (.slice base n c)).run Try.prog w.drew = .ok cs.toArray w.drew := by
    rw [hs0]
    cases base with
    | none =>
      have h0 := hnil rfl
      subst h0
      rw [List.length_eq_zero_iff.1 (by omega : cs.length = 0)]
      exact run_firstCells_none w.drew 4 0 0 c
    | some a =>
      obtain ⟨b, rfl⟩ := hb0 a rfl
      exact run_firstCells_some w.drew 4 n ⟨b, 0, none⟩ n c cs hcl (fun j v hj => by rw [Addr.add_lit, Nat.zero_add]; exact hcs b rfl j v hj)
  have hrun : ∀ ty, (Builtin.append_ #[78, 78] ty #[.slice base n c, .slice (some ⟨vb, vo, none⟩) 1 vc]).run Try.prog w = _ := fun ty =>
    run_append_grow_src w 78 78 ty 113 i0 z0 Try.underlying78 hi0 hz0 base n c cs hold _ 1 vs hsrc hroom (by omega) (by rw [hby]; exact growslice_fits hroom hbig)
  obtain ⟨G, hG⟩ : ∃ G, G = grownCap w (n + 1) c 113 := ⟨_, rfl⟩
  obtain ⟨zs, hz⟩ : ∃ zs, zs = (Builtin.zeroCells z0.cells (G - (n + 1))).toList := ⟨_, rfl⟩
  have hGn : n + 1 ≤ G := by rw [hG]; exact grownCap_ge w _ _ _
  have hlen : ((cs ++ vs) ++ zs).length = G * 4 := by
    rw [hz]
    simp [Builtin.zeroCells, hcl, hvl, hzs]
    omega
  have harr : (cs ++ vs).toArray ++ Builtin.zeroCells z0.cells (grownCap w (n + 1) c 113 - (n + 1)) = ((cs ++ vs) ++ zs).toArray := by
    rw [hz, hG]; apply Array.ext'; simp
  rw [harr, ← hG] at hrun
  clear hi0 hs0 hby hz0 hzs hsrc hold harr hz hG
  obtain ⟨ROW, hROW⟩ : ∃ ROW, ROW = ((cs ++ vs) ++ zs).toArray := ⟨_, rfl⟩
  rw [← hROW] at hrun
  have main : Calls Try.prog 56 #[.slice base n c, .int .i64 n, .slice (some ⟨vb, vo, none⟩) 1 vc] w fun e w' => e = .returned (.slice (some ⟨w.heap.size, 0, none⟩) (n + 1) G) ∧ w' = w.drew.alloc (.cells ROW 113) := by
    clear hROW hlen hGn hcs hvs h1v hcl hvl
    go_enter Try.func56, Try.ntmps56
    cases base with
    | none =>
      have h0 := hnil rfl
      subst h0
      go_wp2_with (at_builtin; refine Lib.wpList_append_run _ rfl _ _ _ _ rfl _ _ rfl rfl _ _ (hrun _) ?_)
      go_ret
      exact ⟨rfl, rfl⟩
    | some a =>
      obtain ⟨ab, rfl⟩ := hb0 a rfl
      clear hb0 hnil
      go_wp2_with (at_builtin; refine Lib.wpList_append_run _ rfl _ _ _ _ rfl _ _ rfl rfl _ _ (hrun _) ?_)
      all_goals (go_ret; exact ⟨rfl, rfl⟩)
  exact Calls.mono main fun e w' ⟨he, hw⟩ => ⟨G, zs, he, by rw [hw, hROW], hGn, hlen⟩
end Go.Proofs.Ytijabmpcicddbaa.Ins
