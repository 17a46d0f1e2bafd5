/- ParseBack: the command of a command's line is it, and a line's command's line is that command. -/
import Derived.Test.YtijabmpcicddbaaDoorParseBackL
set_option linter.unusedVariables false
set_option linter.unusedSimpArgs false
namespace Go.Proofs.YtijabmpcicddbaaDoor.ParseBack
open Go.Ve
theorem cb {a_1 a_2 a_3 a_4 a_5 a_6 a_7 a_8 : Int} (h_3 : PvOk (.val (.int .i64 a_3))) (h_4 : PvOk (.val (.int .i64 a_4))) (h_5 : PvOk (.val (.int .i64 a_5))) (h_6 : PvOk (.val (.int .u8 a_6))) (h_7 : PvOk (.val (.int .u8 a_7))) (h_8 : PvOk (.val (.int .u64 a_8))) : CB ⟨a_1, a_2, a_3, a_4, a_5, a_6, a_7, a_8⟩ where
  p := okI_spec.2 (pv_i64 h_3)
  n := okI_spec.2 (pv_i64 h_4)
  v := okI_spec.2 (pv_i64 h_5)
  m0 := (pv_u8 h_6).1
  m1 := (pv_u8 h_6).2
  t0 := (pv_u8 h_7).1
  t1 := (pv_u8 h_7).2
  a0 := (pv_u64 h_8).1
theorem e23_self (c : C8) : e23 c.what c.what c.kind c.kind c.port c.port c.num c.num c.vlan c.vlan c.memb c.memb c.tagd c.tagd c.mac c.mac = true := by unfold e23; simp
theorem e24_self (c : C8) : e24 c.what c.what c.kind c.kind c.port c.port c.num c.num c.vlan c.vlan c.memb c.memb c.tagd c.tagd c.mac c.mac = false := by unfold e24; simp
/-- a line's command, written and read again -/
theorem tail {α : Type} (s : ByteArray) (k0 k1 : Option α) (K : Int → Int → Int → Int → Int → Int → Int → Int → Option α)
    (hK : ∀ c : C8, CB c → (∃ t, textO c = some t) → K c.what c.kind c.port c.num c.vlan c.memb c.tagd c.mac = k0) : parse_Line s k0 K k0 = k0 := by
  by_cases hs : 200 < s.size
  · exact lineP_long _ hs _ _ _ _
  · rw [lineP s (by omega)]
    cases hf : find (WB s) with
    | none => rfl
    | some c =>
      obtain ⟨h1, h2⟩ := text_of_line (by omega) hf
      exact hK c h1 h2
theorem again {α : Type} {c : C8} (hc : CB c) (ht : ∃ t, textO c = some t) (k0 k1 kx : Option α) : parse_Text c.what c.kind c.port c.num c.vlan c.memb c.tagd c.mac
    (fun r => parse_Line r k1 (fun r_28 r_29 r_30 r_31 r_32 r_33 r_34 r_35 => bif e23 r_28 c.what r_29 c.kind r_30 c.port r_31 c.num r_32 c.vlan r_33 c.memb r_34 c.tagd r_35 c.mac then k0 else k1) k1) kx = k0 := by
  obtain ⟨t, h⟩ := ht
  obtain ⟨i, _, _, _, z1, z2⟩ := text_some hc h
  rw [textP hc, h]
  show parse_Line t _ _ _ = k0
  rw [lineP t (by omega), z2]
  show (bif e23 c.what c.what c.kind c.kind c.port c.port c.num c.num c.vlan c.vlan c.memb c.memb c.tagd c.tagd c.mac c.mac then k0 else k1) = k0
  rw [e23_self, cond_true]
theorem main {α : Type} (a_1 : Int) (a_2 : Int) (a_3 : Int) (a_4 : Int) (a_5 : Int) (a_6 : Int) (a_7 : Int) (a_8 : Int) (a_9 : ByteArray) (h_1 : PvOk (.val (.int .i64 a_1))) (h_2 : PvOk (.val (.int .i64 a_2))) (h_3 : PvOk (.val (.int .i64 a_3))) (h_4 : PvOk (.val (.int .i64 a_4))) (h_5 : PvOk (.val (.int .i64 a_5))) (h_6 : PvOk (.val (.int .u8 a_6))) (h_7 : PvOk (.val (.int .u8 a_7))) (h_8 : PvOk (.val (.int .u64 a_8))) (h_9 : PvOk (.val (.string a_9))) (k0 k1 : Option α) : law22_ParseBack a_1 a_2 a_3 a_4 a_5 a_6 a_7 a_8 a_9 k0 k1 = k0 := by
  have hc : CB ⟨a_1, a_2, a_3, a_4, a_5, a_6, a_7, a_8⟩ := cb h_3 h_4 h_5 h_6 h_7 h_8
  unfold law22_ParseBack law22_ParseBack_T
  by_cases hs : (a_9.size : Int) > 2000
  · rw [dec_t hs, cond_true]
  rw [dec_f hs, cond_false]
  refine (textP hc α _ _).trans ?_
  cases ht : textO ⟨a_1, a_2, a_3, a_4, a_5, a_6, a_7, a_8⟩ with
  | none => exact tail a_9 k0 k1 _ fun c h1 h2 => again h1 h2 k0 k1 _
  | some t =>
    obtain ⟨i, _, _, _, z1, z2⟩ := text_some hc ht
    show parse_Line t _ _ _ = k0
    rw [lineP t (by omega), z2]
    show (bif e24 a_1 a_1 a_2 a_2 a_3 a_3 a_4 a_4 a_5 a_5 a_6 a_6 a_7 a_7 a_8 a_8 then k1 else bif decide ((t.size : Int) > 200) then k1 else parse_Line a_9 k0 _ k0) = k0
    rw [e24_self ⟨a_1, a_2, a_3, a_4, a_5, a_6, a_7, a_8⟩, cond_false, dec_f (by omega), cond_false]
    exact tail a_9 k0 k1 _ fun c h1 h2 => again h1 h2 k0 k1 _
end Go.Proofs.YtijabmpcicddbaaDoor.ParseBack
