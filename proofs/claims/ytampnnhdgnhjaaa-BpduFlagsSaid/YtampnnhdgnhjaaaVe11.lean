/- The evaluator ("VE"): appends; a string's bytes. -/
import Derived.Test.YtampnnhdgnhjaaaVe10
import Derived.Lib.ConvBytes
set_option linter.unusedVariables false
set_option linter.unusedSimpArgs false
namespace Go.Ve
section
variable {P : Program} {t : List (Nat × AV)} {h : List (Nat × AObj)} {nx : Nat} {u : Upd}

/-- a row's cells, one by one -/
theorem bt_cell (s : ByteArray) (j : Nat) (hj : j < s.size) : (byteCells s)[j]? = some (.int .u8 (bt s (j : Int))) := by
  unfold byteCells bt
  have h1 : j < s.data.toList.length := by simpa using hj
  rw [List.getElem?_map, List.getElem?_eq_getElem h1]
  simp [hj]
  rfl

theorem appSrc_rel {U : Nat} {ud td : TD} (hU : TdOk P U ud) {x : CV} {k : Option IntKind} {m : Nat} {g : Nat → Nat → PV} {r : List Nat} (hx : appSrc h td ud.k x = some (k, m, g, r)) {E : Env} (hE : E.ok) (hrd : ∀ id, id ∈ r → E.H id = aget h id) {v : Value} (hv : RC E x v) :
    (∀ kk, k = some kk → ∀ j, j < m → ∃ n, g j 0 = .val (.int kk n)) ∧ ∃ news, Src P td.size U v m news E.w ∧ ∀ j, j < m → ∀ c, c < td.size → ∃ y, news[j * td.size + c]? = some y ∧ RP E.S E.w (g j c) y := by
  unfold appSrc at hx
  split at hx
  · rename_i b hk1 hk2
    obtain ⟨h1, hx⟩ := cond_some hx
    have h1 := Nat.eq_of_beq_eq_true h1
    simp only [Option.some.injEq, Prod.mk.injEq] at hx
    obtain ⟨rfl, rfl, rfl, rfl⟩ := hx
    obtain ⟨rfl, _⟩ := hv
    refine ⟨fun kk hkk j hj => by
      injection hkk with hkk
      subst hkk
      exact ⟨_, rfl⟩, byteCells b, ?_, fun j hj c hc => ?_⟩
    · rw [h1]
      exact Src.ofString _ (und_str hU hk1) b
    · have : c = 0 := by omega
      subst this
      rw [h1]
      exact ⟨_, by rw [Nat.mul_one, Nat.add_zero]; exact bt_cell b j hj, rfl, rfl⟩
  · rename_i e' hk
    obtain ⟨hkk, a, c, rfl, hnc, ha, hcell⟩ := readSl_rel hx hE hrd hv
    refine ⟨hkk, ?_⟩
    by_cases hm : m = 0
    · subst hm
      refine ⟨[], ?_, fun j hj => absurd hj (by omega)⟩
      cases a with
      | none => exact Src.ofNil _ (und_slc hU hk) c
      | some a => exact Src.ofSlice _ (und_slc hU hk) a 0 c [] (by simp) (fun j u hu => by simp at hu) (fun u hu => by simp at hu)
    · obtain ⟨b, o, rfl, hc2⟩ := hcell (by omega)
      have hget : ∀ i, i < m * td.size → ∃ y, E.w.cell? ⟨b, o + i, none⟩ = some y ∧ y.oneCell' = true := by
        intro i hi
        have hpos : 0 < td.size := Nat.pos_of_ne_zero fun e => by rw [e] at hi; simp at hi
        obtain ⟨y, hy, hr⟩ := hc2 (i / td.size) (Nat.div_lt_of_lt_mul (by rw [Nat.mul_comm]; exact hi)) (i % td.size) (Nat.mod_lt _ hpos)
        refine ⟨y, ?_, RP.one hr⟩
        rw [← hy]
        congr 2
        have := Nat.div_add_mod' i td.size
        omega
      refine ⟨(List.range (m * td.size)).map fun i => (E.w.cell? ⟨b, o + i, none⟩).getD undef, ?_, fun j hj q hq => ?_⟩
      · refine Src.ofSlice _ (und_slc hU hk) ⟨b, o, none⟩ m c _ (by simp) (fun j u hu => ?_) (fun u hu => ?_)
        · rw [List.getElem?_map] at hu
          by_cases hj : j < m * td.size
          · obtain ⟨y, hy, _⟩ := hget j hj
            rw [List.getElem?_range hj] at hu
            simp [hy] at hu
            rw [add_plain, hy, hu]
          · rw [List.getElem?_eq_none (by simpa using hj)] at hu
            simp at hu
        · obtain ⟨i, hi, rfl⟩ := List.mem_map.1 hu
          obtain ⟨y, hy, h1⟩ := hget i (by simpa using hi)
          simpa [hy] using h1
      · have hlt : j * td.size + q < m * td.size := by
          have : (j + 1) * td.size ≤ m * td.size := Nat.mul_le_mul_right _ hj
          rw [Nat.add_mul] at this
          omega
        obtain ⟨y, hy, hr⟩ := hc2 j hj q hq
        refine ⟨y, ?_, hr⟩
        rw [List.getElem?_map, List.getElem?_range hlt]
        simp only [Option.map_some, Option.some.injEq]
        rw [show o + (j * td.size + q) = o + j * td.size + q by omega, hy]
        rfl
  · cases hx

/-- two rows behind one another -/
theorem cat_get {esz n m : Nat} {olds news : List Value} (rest : List Value) (ho : olds.length = n * esz) {f g : Nat → Nat → PV} {S : Nat → Prop} {w : World} (hf : ∀ j, j < n → ∀ c, c < esz → ∃ y, olds[j * esz + c]? = some y ∧ RP S w (f j c) y)
    (hg : ∀ j, j < m → ∀ c, c < esz → ∃ y, news[j * esz + c]? = some y ∧ RP S w (g j c) y) : ∀ j, j < n + m → ∀ c, c < esz → ∃ y, (olds ++ news ++ rest)[j * esz + c]? = some y ∧ RP S w (catf n f g j c) y := by
  intro j hj c hc
  unfold catf
  by_cases h1 : j < n
  · have hb : Nat.blt j n = true := Nat.ble_eq_true_of_le h1
    rw [hb, cond_true]
    obtain ⟨y, hy, hr⟩ := hf j h1 c hc
    have := (List.getElem?_eq_some_iff.1 hy).1
    exact ⟨y, by rw [List.append_assoc, List.getElem?_append_left this]; exact hy, hr⟩
  · have hb : Nat.blt j n = false := by
      cases hb : Nat.blt j n with
      | false => rfl
      | true => exact absurd (Nat.le_of_ble_eq_true hb) (by omega)
    rw [hb, cond_false]
    obtain ⟨y, hy, hr⟩ := hg (j - n) (by omega) c hc
    have := (List.getElem?_eq_some_iff.1 hy).1
    have hjn : j * esz = n * esz + (j - n) * esz := by rw [← Nat.add_mul]; congr 1; omega
    refine ⟨y, ?_, hr⟩
    rw [hjn, List.append_assoc, List.getElem?_append_right (by omega), ho, show n * esz + (j - n) * esz + c - n * esz = (j - n) * esz + c by omega, List.getElem?_append_left this]
    exact hy
theorem cat_kind {k k' : Option IntKind} {n m : Nat} {f g : Nat → Nat → PV} (hf : ∀ kk, k' = some kk → ∀ j, j < n → ∃ m, f j 0 = .val (.int kk m)) (hg : ∀ kk, k = some kk → ∀ j, j < m → ∃ n, g j 0 = .val (.int kk n)) :
    ∀ kk, joinK k' k m = some kk → ∀ j, j < n + m → ∃ m, catf n f g j 0 = .val (.int kk m) := by
  intro kk hkk j hj
  unfold catf
  by_cases h1 : j < n
  · have hb : Nat.blt j n = true := Nat.ble_eq_true_of_le h1
    rw [hb, cond_true]
    refine hf kk ?_ j h1
    unfold joinK at hkk
    cases hke : (k' == k) with
    | true => simpa [hke] using hkk
    | false =>
      simp only [hke, cond_false] at hkk
      split at hkk
      · exact hkk
      · cases hkk
  · have hb : Nat.blt j n = false := by
      cases hb : Nat.blt j n with
      | false => rfl
      | true => exact absurd (Nat.le_of_ble_eq_true hb) (by omega)
    rw [hb, cond_false]
    refine hg kk ?_ (j - n) (by omega)
    unfold joinK at hkk
    cases hke : (k' == k) with
    | true => rw [← eq_of_beq hke]; simpa [hke] using hkk
    | false =>
      simp only [hke, cond_false] at hkk
      split at hkk
      · omega
      · cases hkk

theorem call_in {c : Call} {b : Builtin} (hc : c.callee = .builtin b) {y : Operand} (hy : y ∈ c.args) : y ∈ (Op.call c).operands.toList := by
  simp [Op.operands, Call.operands, hc, hy]
theorem bi_append (ats : Array TypeId) (ty : TypeId) (cs : Array Bool) (args : Array Value) : builtin .append ats ty cs args = (do pure (.value (← Builtin.append_ ats ty args))) := rfl
theorem call_run {c : Call} {b : Builtin} (hc : c.callee = .builtin b) {o : Oper} (ho : o.op = .call c) (ρ : Operand → Value) : execOp ρ o = builtin b c.argTypes o.type (c.args.map fun | .const _ => true | _ => false) (c.args.map ρ) := by
  obtain ⟨dst, op, ty, pos, after, guard⟩ := o
  obtain ⟨callee, args, ats⟩ := c
  simp only at ho hc
  subst ho
  subst hc
  rfl

theorem ok_append {tt : Nat → Option TD} (hT : TT P tt) {c : Call} (hc : c.callee = .builtin .append) {T U : Nat} (hty : c.argTypes.toList = [T, U]) {ud : TD} (hud : tt U = some ud) {s x : CV} (hargs : opvs t c.args.toList = some [.v (.c s), .v (.c x)])
    (hu : (evAppend tt h nx T ud.k s x).get = some u) : OpOk P (.call c) t h nx u := by
  have hats : c.argTypes = #[T, U] := by rw [← Array.toArray_toList (xs := c.argTypes), hty]
  unfold evAppend at hu
  split at hu
  · rename_i e sz by' z htd
    have ht := hT T _ htd
    have htu := und_slc ht rfl
    split at hu
    · rename_i ed hed
      have he := hT e ed hed
      obtain ⟨i, zv, hi, hi1, hi2, hi3, hi4⟩ := he.inf
      split at hu
      · rename_i k m g r hsrc
        cases hbb : (Nat.ble ed.bytes 65536 && Nat.ble 1 ed.bytes) with
        | false => simp only [hbb, cond_false, Stp.get] at hu; cases hu
        | true =>
          simp only [hbb, cond_true] at hu
          simp only [Bool.and_eq_true] at hbb
          have hb1 := Nat.le_of_ble_eq_true hbb.2
          -- what is told of the operands
          have args : ∀ {u : Upd} (E : Env) (a : Act), Ahead E a t h nx (.call c) u → ∃ sv xv, c.args.map a.eval = #[sv, xv] ∧ RC E s sv ∧ RC E x xv := by
            intro u E a hA
            have hr := opvs_rel hargs (fun y hy => call_in hc (by simpa using hy)) hA
            generalize hl : c.args.toList.map a.eval = l at hr
            cases hr with
            | cons h1 hr =>
              cases hr with
              | cons h2 hr =>
                cases hr
                exact ⟨_, _, by apply Array.ext'; simp [hl], h1, h2⟩
          have hfit : ∀ need old, old < need → need * ed.bytes ≤ bound → ((need : Nat) : Int) ≤ 9223372036854775807 ∧ Builtin.nextslicecap need old * i.bytes ≤ 281474976710656 := by
            intro need old h1 h2
            have h3 : need * 1 ≤ need * ed.bytes := Nat.mul_le_mul_left _ hb1
            unfold bound at h2
            refine ⟨by omega, ?_⟩
            rw [hi2]
            exact growslice_fits h1 (by omega)
          -- a row that is new
          have grow : ∀ {w : List (Nat × AObj)} {kk : Option IntKind} {n0 : Nat} {F : Nat → Nat → PV}, True := fun {_ _ _ _} => trivial
          split at hu
          · -- the nil slice
            cases hm0 : Nat.beq m 0 with
            | true =>
              have hm0 := Nat.eq_of_beq_eq_true hm0
              subst hm0
              simp only [Stp.get, show Nat.beq 0 0 = true from rfl, cond_true, Option.some.injEq] at hu
              subst hu
              refine opOk_val fun o ho E a hA => ?_
              obtain ⟨sv, xv, hav, ⟨rfl, _⟩, hxv⟩ := args E a hA
              obtain ⟨_, news, hs, _⟩ := appSrc_rel (hT U ud hud) hsrc hA.ok hA.rd hxv
              refine ⟨.slice none 0 0, ?_, rfl, rfl⟩
              have hnl : news = [] := List.eq_nil_of_length_eq_zero (by rw [hs.newsLen]; simp)
              rw [call_run hc ho, hats, hav]
              have hcells := hs.cells
              simp only [bi_append]
              rcases hs.kind with ⟨e', hk⟩ | hk <;> simp [Builtin.append_, Go.run_underlying htu, Go.run_underlying hk, he.run_sizeOf, hs.len, hcells, hnl]
            | false =>
              simp only [Stp.get, hm0, cond_false] at hu
              cases hbd : Nat.ble (m * ed.bytes) bound with
              | false => simp only [hbd, cond_false] at hu; cases hu
              | true =>
                simp only [hbd, cond_true, Option.some.injEq] at hu
                subst hu
                have hm0 : m ≠ 0 := fun e => by subst e; cases hm0
                refine opOk_new FW.nil fun o ho E a hA => ?_
                obtain ⟨sv, xv, hav, ⟨rfl, _⟩, hxv⟩ := args E a hA
                obtain ⟨hkk, news, hs, hnew⟩ := appSrc_rel (hT U ud hud) hsrc hA.ok hA.rd hxv
                obtain ⟨hf1, hf2⟩ := hfit m 0 (by omega) (Nat.le_of_ble_eq_true hbd)
                have hrun := run_append_grow_src (P := P) E.w T U o.type e i zv htu hi hi3 none 0 0 [] (run_firstCells_none _ _ _ _ _) xv m news (by rw [hi1]; exact hs) (by omega) (by simpa using hf1) (by simpa using hf2)
                simp only [Nat.zero_add, List.nil_append] at hrun
                have hge := grownCap_ge E.w m 0 e
                refine ⟨.slice (some ⟨E.w.heap.size, 0, none⟩) m (grownCap E.w m 0 e), news.toArray ++ Builtin.zeroCells zv.cells (grownCap E.w m 0 e - m), e, E.w.drew.alloc (.cells (news.toArray ++ Builtin.zeroCells zv.cells (grownCap E.w m 0 e - m)) e), ?_, ⟨rfl, rfl, rfl, rfl⟩, fun E' hev hH hob hnx hb => ?_⟩
                · rw [call_run hc ho, hats, hav]
                  simp only [bi_append, Sem.run_bind, hrun, Result.andThen_ok, Sem.run_pure]
                · have hnl := hs.newsLen
                  have hzs : zv.cells.size = ed.size := by rw [← Array.length_toList, hi4, he.len]
                  have hsz : (news.toArray ++ Builtin.zeroCells zv.cells (grownCap E.w m 0 e - m)).size = grownCap E.w m 0 e * ed.size := by
                    simp [Builtin.zeroCells, hnl, hzs]
                    rw [← Nat.add_mul]
                    congr 1
                    omega
                  have hml : m * ed.size ≤ grownCap E.w m 0 e * ed.size := Nat.mul_le_mul_right _ hge
                  refine ⟨⟨_, hb, by omega, hkk, fun j hj c hcc => ?_, fun e => by cases e⟩, fun hok hι => ?_⟩
                  · obtain ⟨y, hy, hr⟩ := hnew j hj c hcc
                    have hlt := (List.getElem?_eq_some_iff.1 hy).1
                    refine ⟨y, ?_, RP.mono hev.s hev.c hr⟩
                    rw [Array.getElem?_append_left (by simpa using hlt)]
                    simpa using hy
                  · simp only [RA, RV, RC, hnx]
                    exact ⟨_, _, by rw [hι], hge, hb, by omega⟩
          · rename_i id
            split at hu
            · rename_i k' s' n f hid
              cases hse : Nat.beq s' ed.size with
              | false => simp only [hse, cond_false, Stp.get] at hu; cases hu
              | true =>
                obtain rfl := Nat.eq_of_beq_eq_true hse
                simp only [hse, cond_true, Stp.get] at hu
                cases hbd : Nat.ble ((n + m) * ed.bytes) bound with
                | false => simp only [hbd, cond_false] at hu; cases hu
                | true =>
                  simp only [hbd, cond_true, Option.some.injEq] at hu
                  subst hu
                  intro o ho E a hA K Q hK
                  obtain ⟨sv, xv, hav, hsv, hxv⟩ := args E a hA
                  obtain ⟨hkk, news, hs, hnew⟩ := appSrc_rel (hT U ud hud) hsrc hA.ok (fun id hid => hA.rd id (by simp [hid])) hxv
                  have hHid : E.H id = some (.parr false k' ed.size n f) := (hA.rd id (by simp)).trans hid
                  have hE := hA.ok
                  simp only [RC, hHid] at hsv
                  obtain ⟨cap, cs, rfl, hnc, hb, hcap⟩ := hsv
                  obtain ⟨cs2, hb2, hn2, hkk2, hold, _⟩ := hE.obj id _ hHid
                  obtain rfl := Env.blk_unique hb hb2
                  have hnl := hs.newsLen
                  by_cases hroom : n + m ≤ cap
                  · -- there is room
                    have hin : n * ed.size + news.length ≤ cs.size := by
                      rw [hnl, ← Nat.add_mul]
                      exact Nat.le_trans (Nat.mul_le_mul_right _ hroom) hcap
                    obtain ⟨cs', T', fr, h1, h2, h3, h4⟩ := blk_set hb hin
                    have hbc := hb
                    obtain ⟨T0, fr0, hb0, hf0⟩ := hbc
                    have hrun := run_append_room_src (P := P) E.w T U o.type e i htu hi (E.ι id) 0 n cap xv m news (by rw [hi1]; exact hs) hroom
                      (fun j hj => by
                        rw [hi1]
                        have : 0 + n * ed.size + j < cs.size := by omega
                        simp only [World.cell?, hb0]
                        simp only [Nat.zero_add] at this
                        simp [this])
                      (fun j hj => by
                        rw [hi1]
                        have := hf0 (0 + n * ed.size + j) (by omega)
                        simp only [World.frozen?, hb0]
                        simp
                        omega)
                    rw [hi1, Nat.zero_add] at hrun
                    obtain ⟨r1, r2, r3, r4⟩ := setCells_rest (E.ι id) news (n * ed.size) E.w
                    obtain ⟨E', hw', hE'⟩ := After.write (u := { v := some (.c (.own nx)), rd := id :: r, wr := [(id, .dead)], al := [.parr false (joinK k' k m) ed.size (n + m) (catf n f g)] }) (v := .slice (some ⟨E.ι id, 0, none⟩) (n + m) cap) (d := id) (nx := nx) (w' := E.w.setCells (E.ι id) (n * ed.size) news) hE hHid rfl hA.al (by simp)
                      (fun q hq => by
                        simp at hq
                        subst hq
                        exact .inr ⟨rfl, rfl, (by rintro ⟨_, _, e⟩; cases e), .inl rfl⟩)
                      (fun _ => by simp [foldH]) r1 r2 r3 r4 (fun b hb => setCells_other _ _ _ _ _ hb) h1 h2 (fun cs0 h0 => by rw [Env.blk_unique h0 hb, h3]) (by simp)
                      (fun E' hev hH hr id' o' hc ho' hbl => by
                        rcases hc with rfl | ⟨_, hc, _⟩
                        · have hne : nx ≠ id' := by
                            intro e
                            have := hA.al 0 (by simp)
                            rw [Nat.add_zero, e, hHid] at this
                            cases this
                          rw [hH, updH_eq, if_neg (by simp; omega)] at ho'
                          simp [foldH] at ho'
                          subst ho'
                          trivial
                        · simp at hc
                          subst hc
                          refine ⟨cs', hbl, ?_, cat_kind hkk2 hkk, fun j hj c hcc => ?_, fun e => by cases e⟩
                          · rw [h3, Nat.add_mul, ← hnl]; exact hin
                          · have htl : (cs.toList.take (n * ed.size)).length = n * ed.size := by simp; omega
                            obtain ⟨y, hy, hr⟩ := cat_get (cs.toList.drop (n * ed.size + news.length)) htl (fun j hj c hcc => by
                              have hlt : j * ed.size + c < n * ed.size := by
                                have : (j + 1) * ed.size ≤ n * ed.size := Nat.mul_le_mul_right _ hj
                                rw [Nat.add_mul] at this
                                omega
                              obtain ⟨y, hy, hr⟩ := hold j hj c hcc
                              exact ⟨y, by rw [List.getElem?_take_of_lt hlt, Array.getElem?_toList]; exact hy, RP.mono hev.s hev.c hr⟩)
                              (fun j hj c hcc => by obtain ⟨y, hy, hr⟩ := hnew j hj c hcc; exact ⟨y, hy, RP.mono hev.s hev.c hr⟩) j hj c hcc
                            exact ⟨y, by rw [← Array.getElem?_toList, h4]; exact hy, hr⟩)
                      (fun E' hev hH hok hn av hav => by
                        injection hav with hav
                        subst hav
                        obtain ⟨hι, hbl⟩ := hn (by simp)
                        have hnx : E'.H nx = some (.parr false (joinK k' k m) ed.size (n + m) (catf n f g)) := by
                          rw [hH, updH_eq, if_pos (by simp)]
                          simp
                        simp only [RA, RV, RC, hnx]
                        exact ⟨cap, cs', by rw [hι], hroom, hbl, by rw [h3]; exact hcap⟩)
                    refine wp_of_run (v := .slice (some ⟨E.ι id, 0, none⟩) (n + m) cap) ?_ (hw' ▸ hK _ E' hE')
                    rw [call_run hc ho, hats, hav]
                    simp only [bi_append, Sem.run_bind, hrun, Result.andThen_ok, Sem.run_pure]
                  · -- there is none
                    obtain ⟨hf1, hf2⟩ := hfit (n + m) cap (by omega) (Nat.le_of_ble_eq_true hbd)
                    have htl : (cs.toList.take (n * ed.size)).length = n * ed.size := by simp; omega
                    have hrun := run_append_grow_src (P := P) E.w T U o.type e i zv htu hi hi3 (some ⟨E.ι id, 0, none⟩) n cap (cs.toList.take (n * ed.size)) (run_firstCells_some _ _ _ _ _ _ _ (by rw [htl, hi1]) (fun j v hj => by
                        have hlt := (List.getElem?_eq_some_iff.1 hj).1
                        rw [htl] at hlt
                        rw [List.getElem?_take_of_lt hlt, Array.getElem?_toList] at hj
                        rw [add_plain, Nat.zero_add]
                        have := cells_block (E := E) hb j
                        rw [hj] at this
                        simpa using this)) xv m news (by rw [hi1]; exact hs) (by omega) hf1 hf2
                    have hge := grownCap_ge E.w (n + m) cap e
                    obtain ⟨E', hw', hE'⟩ := After.make (u := { v := some (.c (.own nx)), rd := id :: r, wr := [(id, .dead)], al := [.parr false (joinK k' k m) ed.size (n + m) (catf n f g)] }) (nx := nx) (v := .slice (some ⟨E.w.heap.size, 0, none⟩) (n + m) (grownCap E.w (n + m) cap e))
                      (o := .parr false (joinK k' k m) ed.size (n + m) (catf n f g)) (cs := (cs.toList.take (n * ed.size) ++ news).toArray ++ Builtin.zeroCells zv.cells (grownCap E.w (n + m) cap e - (n + m))) (T := e) (fr := (0, 0))
                      (w' := E.w.drew.alloc (.cells ((cs.toList.take (n * ed.size) ++ news).toArray ++ Builtin.zeroCells zv.cells (grownCap E.w (n + m) cap e - (n + m))) e)) hE (by simpa using hA.al 0 (by simp)) rfl
                      (fun q hq => by
                        simp at hq
                        subst hq
                        exact ⟨_, hHid, .dead⟩) rfl rfl rfl (by simp) (fun b hb => by show (E.w.heap.push _)[b]? = _; rw [Array.getElem?_push, if_neg (by omega)]) (by show (E.w.heap.push _)[E.w.heap.size]? = _; rw [Array.getElem?_push, if_pos rfl]) (fun j _ => by simp)
                      (fun E' hev hH hob hnx hb' => by
                        have hzs : zv.cells.size = ed.size := by rw [← Array.length_toList, hi4, he.len]
                        refine ⟨_, hb', ?_, cat_kind hkk2 hkk, fun j hj c hcc => ?_, fun e => by cases e⟩
                        · simp [hnl]
                          rw [Nat.add_mul]
                          omega
                        · obtain ⟨y, hy, hr⟩ := cat_get (Builtin.zeroCells zv.cells (grownCap E.w (n + m) cap e - (n + m))).toList htl (fun j hj c hcc => by
                              have hlt : j * ed.size + c < n * ed.size := by
                                have : (j + 1) * ed.size ≤ n * ed.size := Nat.mul_le_mul_right _ hj
                                rw [Nat.add_mul] at this
                                omega
                              obtain ⟨y, hy, hr⟩ := hold j hj c hcc
                              exact ⟨y, by rw [List.getElem?_take_of_lt hlt, Array.getElem?_toList]; exact hy, RP.mono hev.s hev.c hr⟩)
                              (fun j hj c hcc => by obtain ⟨y, hy, hr⟩ := hnew j hj c hcc; exact ⟨y, hy, RP.mono hev.s hev.c hr⟩) j hj c hcc
                          refine ⟨y, ?_, hr⟩
                          rw [← Array.getElem?_toList]
                          simpa using hy)
                      (fun E' hev hH hok hnx hι hb' av hav => by
                        injection hav with hav
                        subst hav
                        have hzs : zv.cells.size = ed.size := by rw [← Array.length_toList, hi4, he.len]
                        simp only [RA, RV, RC, hnx]
                        refine ⟨_, _, by rw [hι], hge, hb', ?_⟩
                        simp [Builtin.zeroCells, hnl, hzs]
                        rw [Nat.min_eq_left (by omega), ← Nat.add_mul, ← Nat.add_mul]
                        exact Nat.mul_le_mul_right _ (by omega))
                    refine wp_of_run (v := .slice (some ⟨E.w.heap.size, 0, none⟩) (n + m) (grownCap E.w (n + m) cap e)) ?_ (hw' ▸ hK _ E' hE')
                    rw [call_run hc ho, hats, hav]
                    simp only [bi_append, Sem.run_bind, hrun, Result.andThen_ok, Sem.run_pure]
            · simp only [Stp.get] at hu; cases hu
          · simp only [Stp.get] at hu; cases hu
      · simp only [Stp.get] at hu; cases hu
    · simp only [Stp.get] at hu; cases hu
  · simp only [Stp.get] at hu; cases hu

theorem bytes_cell {w : World} {e : TypeId} (s : ByteArray) (j : Nat) (hj : j < s.size) : (Lib.bytesCells w e s)[j]? = some (.int .u8 (bt s (j : Int))) := by
  unfold Lib.bytesCells bt
  have h1 : j < s.data.size := hj
  rw [Array.getElem?_append_left (by simpa using h1)]
  simp [hj]
  rfl
theorem ok_convert {tt : Nat → Option TD} (hT : TT P tt) {S T : Nat} {x : Operand} {p : CV} (hx : opnd t x = some (.c p)) (hu : (evConvert tt h nx S T p).get = some u) : OpOk P (.convert S T x) t h nx u := by
  by_cases hal : u.al = []
  · exact ok_convert0 hT hx hal hu
  · unfold evConvert at hu
    split at hu
    · rename_i sd td hsd htd
      have hs := hT S sd hsd
      have ht := hT T td htd
      obtain ⟨ds, hds, _⟩ := hs.und
      split at hu
      · simp only [Stp.get, Option.some.injEq] at hu
        subst hu
        exact absurd rfl hal
      · exfalso
        apply hal
        split at hu
        · split at hu
          · simp only [Stp.get, Option.some.injEq] at hu; subst hu; rfl
          · cases hu
        · split at hu
          · split at hu
            · rename_i k n f r hr
              cases hk : (k == some IntKind.u8) with
              | true => simp only [hk, cond_true, Stp.get, Option.some.injEq] at hu; subst hu; rfl
              | false =>
                simp only [hk, cond_false] at hu
                obtain ⟨_, hu⟩ := test_get hu rfl
                simp only [Stp.get, Option.some.injEq] at hu; subst hu; rfl
            · split at hu
              · split at hu
                · rename_i l _
                  cases hk : (kindsOf 1 (l.map pvOf) == some IntKind.u8) with
                  | true => simp only [hk, cond_true, Stp.get, Option.some.injEq] at hu; subst hu; rfl
                  | false => simp only [hk, cond_false] at hu; cases hu
                · cases hu
              · cases hu
          · cases hu
        · cases hu
      · rename_i e s hk
        split at hu
        · rename_i ed sz by' z hed
          have he := hT e _ hed
          simp only [Stp.get, Option.some.injEq] at hu
          subst hu
          intro o ho E a hA K Q hK
          obtain ⟨hv, _⟩ := opnd_in hA (by simp [Op.operands]) hx
          have hrun := Lib.run_convert_string_bytes (P := P) E.w S T e s hds (und_slc ht hk) (und_int he rfl)
          have hge := grownCap_ge E.w s.size 0 e
          have hsz : (Lib.bytesCells E.w e s).size = grownCap E.w s.size 0 e := by
            unfold Lib.bytesCells
            simp
            have : s.data.size = s.size := rfl
            omega
          obtain ⟨E', hw', hE'⟩ := After.make (u := { v := some (.c (.own nx)), al := [.parr false (some .u8) 1 s.size (fun j _ => .val (.int .u8 (bt s (j : Int))))] }) (nx := nx) (v := .slice (some ⟨E.w.heap.size, 0, none⟩) s.size (grownCap E.w s.size 0 e))
            (w' := Lib.bytesWorld E.w e s) hA.ok (by simpa using hA.al 0 (by simp)) rfl (fun q hq => by simp at hq) rfl rfl rfl (Lib.bytesWorld_size E.w e s) (fun b hb => Lib.bytesWorld_at_old E.w e s b hb) (Lib.bytesWorld_at_new E.w e s) (fun j hj => by simp; omega)
            (fun E' hev hH hob hnx hb => ⟨_, hb, by omega, fun kk hkk j hj => (by injection hkk with hkk; subst hkk; exact ⟨_, rfl⟩), fun j hj c hc => ⟨.int .u8 (bt s (j : Int)), by
              obtain rfl : c = 0 := by omega
              rw [Nat.mul_one, Nat.add_zero]
              exact bytes_cell s j hj, rfl, rfl⟩, fun e => by cases e⟩)
            (fun E' hev hH hok hnx hι hb av hav => by
              injection hav with hav
              subst hav
              simp only [RA, RV, RC, hnx]
              exact ⟨_, _, by rw [hι], hge, hb, by omega⟩)
          refine wp_of_run (v := .slice (some ⟨E.w.heap.size, 0, none⟩) s.size (grownCap E.w s.size 0 e)) ?_ (hw' ▸ hK _ E' hE')
          simp [execOp, ho, hv, hrun]
        · cases hu
      · cases hu
    · cases hu
end
end Go.Ve
