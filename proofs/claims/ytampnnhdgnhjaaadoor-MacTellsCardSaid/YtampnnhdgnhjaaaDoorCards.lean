/-
  DERIVED. GIVEN WITH THE SEED: THE CARDS: each row of YtampnnhdgnhjaaaDoorRows.lean that lists a variable, with what it lists TIED to the program's text (the seventh form; the later family's looks); each row that meets fmt, with fmt's text TOLD by the authors' own Lean function (tested against real Go, not proved from fmt's source: count such statements apart). THE CARD IS WHAT COUNTS. Prove the row's statement (the work); the ties are given (YtampnnhdgnhjaaaDoorTie.lean); close each card by the builder's one call (the guide's Derived/Test/ToyasCard.lean, 'card_holds'). Laid BY PROGRAM, IN A SANDBOX (cutbox-door.mjs). By AI agents, Wed Nov 11 2026. No macro, syntax, notation, axiom, sorry.
-/
import Derived.Test.YtampnnhdgnhjaaaDoorRows
import GoSem.ClaimSeven
namespace Go.Proofs.YtampnnhdgnhjaaaDoor
namespace Rows

/-- THE TIED CARD OF 'weirgatelaw09.MacTells'. -/
def macTellsCard : Claim7 := { stood := { row := macTellsRow, standIns := [], harness := (true, "ca9ec8670cd4d2ff926b8213f3842dd5bc77e59aafc6de9ae7809984beef3641"), looks := false }, kinds := [], alts := [], laidByText := true, laidKinds := [.data, .pinned], laidTests := true, laidLooks := .later }
def MacTellsCardSaid : Prop := Claim7.holds Tryd.pinned (.plain (OpenSpec.ofChange macTellsSpec)) macTellsCard

/-- THE TIED CARD OF 'weirgatelaw09.MacBack'. -/
def macBackCard : Claim7 := { stood := { row := macBackRow, standIns := [], harness := (true, "ca9ec8670cd4d2ff926b8213f3842dd5bc77e59aafc6de9ae7809984beef3641"), looks := false }, kinds := [], alts := [], laidByText := true, laidKinds := [.data, .pinned], laidTests := true, laidLooks := .later }
def MacBackCardSaid : Prop := Claim7.holds Tryd.pinned (.plain (OpenSpec.ofChange macBackSpec)) macBackCard

/-- THE TIED CARD OF 'weirgatelaw09.MacKinds'. -/
def macKindsCard : Claim7 := { stood := { row := macKindsRow, standIns := [], harness := (true, "ca9ec8670cd4d2ff926b8213f3842dd5bc77e59aafc6de9ae7809984beef3641"), looks := false }, kinds := [], alts := [], laidByText := true, laidKinds := [.data, .pinned], laidTests := true, laidLooks := .later }
def MacKindsCardSaid : Prop := Claim7.holds Tryd.pinned (.plain (OpenSpec.ofChange macKindsSpec)) macKindsCard

/-- THE TIED CARD OF 'weirgatelaw09.MacOrder'. -/
def macOrderCard : Claim7 := { stood := { row := macOrderRow, standIns := [], harness := (true, "ca9ec8670cd4d2ff926b8213f3842dd5bc77e59aafc6de9ae7809984beef3641"), looks := false }, kinds := [], alts := [], laidByText := true, laidKinds := [.data, .pinned], laidTests := true, laidLooks := .later }
def MacOrderCardSaid : Prop := Claim7.holds Tryd.pinned (.plain (OpenSpec.ofChange macOrderSpec)) macOrderCard

/-- THE SECOND FORM's CARD OF 'weirgatelaw09.MacTells'. -/
def macTellsUptoCard : Claim7 := { stood := { row := macTellsUptoRow, standIns := [], harness := (true, "ca9ec8670cd4d2ff926b8213f3842dd5bc77e59aafc6de9ae7809984beef3641"), looks := false }, kinds := [], alts := [], laidByText := true, laidKinds := [.data, .pinned], laidTests := true, laidLooks := .later }
def MacTellsUptoCardSaid : Prop := Claim7.holds Tryd.pinned (.plain (OpenSpec.upto macTellsSpec)) macTellsUptoCard

/-- THE SECOND FORM's CARD OF 'weirgatelaw09.MacBack'. -/
def macBackUptoCard : Claim7 := { stood := { row := macBackUptoRow, standIns := [], harness := (true, "ca9ec8670cd4d2ff926b8213f3842dd5bc77e59aafc6de9ae7809984beef3641"), looks := false }, kinds := [], alts := [], laidByText := true, laidKinds := [.data, .pinned], laidTests := true, laidLooks := .later }
def MacBackUptoCardSaid : Prop := Claim7.holds Tryd.pinned (.plain (OpenSpec.upto macBackSpec)) macBackUptoCard

/-- THE SECOND FORM's CARD OF 'weirgatelaw09.MacKinds'. -/
def macKindsUptoCard : Claim7 := { stood := { row := macKindsUptoRow, standIns := [], harness := (true, "ca9ec8670cd4d2ff926b8213f3842dd5bc77e59aafc6de9ae7809984beef3641"), looks := false }, kinds := [], alts := [], laidByText := true, laidKinds := [.data, .pinned], laidTests := true, laidLooks := .later }
def MacKindsUptoCardSaid : Prop := Claim7.holds Tryd.pinned (.plain (OpenSpec.upto macKindsSpec)) macKindsUptoCard

/-- THE SECOND FORM's CARD OF 'weirgatelaw09.MacOrder'. -/
def macOrderUptoCard : Claim7 := { stood := { row := macOrderUptoRow, standIns := [], harness := (true, "ca9ec8670cd4d2ff926b8213f3842dd5bc77e59aafc6de9ae7809984beef3641"), looks := false }, kinds := [], alts := [], laidByText := true, laidKinds := [.data, .pinned], laidTests := true, laidLooks := .later }
def MacOrderUptoCardSaid : Prop := Claim7.holds Tryd.pinned (.plain (OpenSpec.upto macOrderSpec)) macOrderUptoCard
end Rows
end Go.Proofs.YtampnnhdgnhjaaaDoor
