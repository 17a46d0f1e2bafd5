/-
  DERIVED. GIVEN WITH THE SEED: THE CARDS: each row of YtijabmpcicddbaaDoorRows.lean that lists a variable, with what it lists TIED to the program's text (the seventh form; the later family's looks); each row that meets fmt, with fmt's text TOLD by the authors' own Lean function (tested against real Go, not proved from fmt's source: count such statements apart). THE CARD IS WHAT COUNTS. Prove the row's statement (the work); the ties are given (YtijabmpcicddbaaDoorTie.lean); close each card by the builder's one call (the guide's Derived/Test/ToyasCard.lean, 'card_holds'). Laid BY PROGRAM, IN A SANDBOX (cutbox-door.mjs). By AI agents, Wed Nov 11 2026. No macro, syntax, notation, axiom, sorry.
-/
import Derived.Test.YtijabmpcicddbaaDoorRows
import GoSem.ClaimSeven
namespace Go.Proofs.YtijabmpcicddbaaDoor
namespace Rows

/-- THE TIED CARD OF 'weirgatelaw21.WordsTell'. -/
def wordsTellCard : Claim7 := { stood := { row := wordsTellRow, standIns := [], harness := (true, "169fae74e2075c2f951f357cdb48ea0b5a0f6d2f71a2686a7588a130aeb72f1f"), looks := true }, kinds := [], alts := [], laidByText := true, laidKinds := [.data, .data, .data, .data, .sentinel, .sentinel, .pinned], laidTests := true, laidLooks := .later }
def WordsTellCardSaid : Prop := Claim7.holds Tryd.pinned (.plain (OpenSpec.ofChange wordsTellSpec)) wordsTellCard

/-- THE TIED CARD OF 'weirgatelaw21.WordsBack'. -/
def wordsBackCard : Claim7 := { stood := { row := wordsBackRow, standIns := [], harness := (true, "169fae74e2075c2f951f357cdb48ea0b5a0f6d2f71a2686a7588a130aeb72f1f"), looks := true }, kinds := [], alts := [], laidByText := true, laidKinds := [.data, .data, .data, .data, .sentinel, .sentinel, .pinned], laidTests := true, laidLooks := .later }
def WordsBackCardSaid : Prop := Claim7.holds Tryd.pinned (.plain (OpenSpec.ofChange wordsBackSpec)) wordsBackCard

/-- THE TIED CARD OF 'weirgatelaw21.WordsNums'. -/
def wordsNumsCard : Claim7 := { stood := { row := wordsNumsRow, standIns := [], harness := (true, "169fae74e2075c2f951f357cdb48ea0b5a0f6d2f71a2686a7588a130aeb72f1f"), looks := true }, kinds := [], alts := [], laidByText := true, laidKinds := [.data, .data, .data, .data, .sentinel, .sentinel, .pinned], laidTests := true, laidLooks := .later }
def WordsNumsCardSaid : Prop := Claim7.holds Tryd.pinned (.plain (OpenSpec.ofChange wordsNumsSpec)) wordsNumsCard

/-- THE TIED CARD OF 'weirgatelaw22.ParseLines'. -/
def parseLinesCard : Claim7 := { stood := { row := parseLinesRow, standIns := [], harness := (true, "169fae74e2075c2f951f357cdb48ea0b5a0f6d2f71a2686a7588a130aeb72f1f"), looks := true }, kinds := [], alts := [], laidByText := true, laidKinds := [.data, .data, .data, .data, .sentinel, .sentinel, .pinned], laidTests := true, laidLooks := .later }
def ParseLinesCardSaid : Prop := Claim7.holds Tryd.pinned (.plain (OpenSpec.ofChange parseLinesSpec)) parseLinesCard

/-- THE TIED CARD OF 'weirgatelaw22.ParseTexts'. -/
def parseTextsCard : Claim7 := { stood := { row := parseTextsRow, standIns := [], harness := (true, "169fae74e2075c2f951f357cdb48ea0b5a0f6d2f71a2686a7588a130aeb72f1f"), looks := true }, kinds := [], alts := [], laidByText := true, laidKinds := [.data, .data, .data, .data, .sentinel, .sentinel, .pinned], laidTests := true, laidLooks := .later }
def ParseTextsCardSaid : Prop := Claim7.holds Tryd.pinned (.plain (OpenSpec.ofChange parseTextsSpec)) parseTextsCard

/-- THE TIED CARD OF 'weirgatelaw22.ParseBack'. -/
def parseBackCard : Claim7 := { stood := { row := parseBackRow, standIns := [], harness := (true, "169fae74e2075c2f951f357cdb48ea0b5a0f6d2f71a2686a7588a130aeb72f1f"), looks := true }, kinds := [], alts := [], laidByText := true, laidKinds := [.data, .data, .data, .data, .sentinel, .sentinel, .pinned], laidTests := true, laidLooks := .later }
def ParseBackCardSaid : Prop := Claim7.holds Tryd.pinned (.plain (OpenSpec.ofChange parseBackSpec)) parseBackCard

/-- THE TIED CARD OF 'weirgatelaw22.ParseBlanks'. -/
def parseBlanksCard : Claim7 := { stood := { row := parseBlanksRow, standIns := [], harness := (true, "169fae74e2075c2f951f357cdb48ea0b5a0f6d2f71a2686a7588a130aeb72f1f"), looks := true }, kinds := [], alts := [], laidByText := true, laidKinds := [.data, .data, .data, .data, .sentinel, .sentinel, .pinned], laidTests := true, laidLooks := .later }
def ParseBlanksCardSaid : Prop := Claim7.holds Tryd.pinned (.plain (OpenSpec.ofChange parseBlanksSpec)) parseBlanksCard

/-- THE TIED CARD OF 'weirgatelaw24.ShowPorts'. -/
def showPortsCard : Claim7 := { stood := { row := showPortsRow, standIns := [], harness := (true, "169fae74e2075c2f951f357cdb48ea0b5a0f6d2f71a2686a7588a130aeb72f1f"), looks := true }, kinds := [], alts := [], laidByText := true, laidKinds := [.data, .data, .data, .data, .sentinel, .sentinel, .pinned], laidTests := true, laidLooks := .later }
def ShowPortsCardSaid : Prop := Claim7.holds Tryd.pinned (.plain (OpenSpec.ofChange showPortsSpec)) showPortsCard

/-- THE SECOND FORM's CARD OF 'weirgatelaw21.WordsTell'. -/
def wordsTellUptoCard : Claim7 := { stood := { row := wordsTellUptoRow, standIns := [], harness := (true, "169fae74e2075c2f951f357cdb48ea0b5a0f6d2f71a2686a7588a130aeb72f1f"), looks := true }, kinds := [], alts := [], laidByText := true, laidKinds := [.data, .data, .data, .data, .sentinel, .sentinel, .pinned], laidTests := true, laidLooks := .later }
def WordsTellUptoCardSaid : Prop := Claim7.holds Tryd.pinned (.plain (OpenSpec.upto wordsTellSpec)) wordsTellUptoCard

/-- THE SECOND FORM's CARD OF 'weirgatelaw21.WordsBack'. -/
def wordsBackUptoCard : Claim7 := { stood := { row := wordsBackUptoRow, standIns := [], harness := (true, "169fae74e2075c2f951f357cdb48ea0b5a0f6d2f71a2686a7588a130aeb72f1f"), looks := true }, kinds := [], alts := [], laidByText := true, laidKinds := [.data, .data, .data, .data, .sentinel, .sentinel, .pinned], laidTests := true, laidLooks := .later }
def WordsBackUptoCardSaid : Prop := Claim7.holds Tryd.pinned (.plain (OpenSpec.upto wordsBackSpec)) wordsBackUptoCard

/-- THE SECOND FORM's CARD OF 'weirgatelaw21.WordsNums'. -/
def wordsNumsUptoCard : Claim7 := { stood := { row := wordsNumsUptoRow, standIns := [], harness := (true, "169fae74e2075c2f951f357cdb48ea0b5a0f6d2f71a2686a7588a130aeb72f1f"), looks := true }, kinds := [], alts := [], laidByText := true, laidKinds := [.data, .data, .data, .data, .sentinel, .sentinel, .pinned], laidTests := true, laidLooks := .later }
def WordsNumsUptoCardSaid : Prop := Claim7.holds Tryd.pinned (.plain (OpenSpec.upto wordsNumsSpec)) wordsNumsUptoCard

/-- THE SECOND FORM's CARD OF 'weirgatelaw22.ParseLines'. -/
def parseLinesUptoCard : Claim7 := { stood := { row := parseLinesUptoRow, standIns := [], harness := (true, "169fae74e2075c2f951f357cdb48ea0b5a0f6d2f71a2686a7588a130aeb72f1f"), looks := true }, kinds := [], alts := [], laidByText := true, laidKinds := [.data, .data, .data, .data, .sentinel, .sentinel, .pinned], laidTests := true, laidLooks := .later }
def ParseLinesUptoCardSaid : Prop := Claim7.holds Tryd.pinned (.plain (OpenSpec.upto parseLinesSpec)) parseLinesUptoCard

/-- THE SECOND FORM's CARD OF 'weirgatelaw22.ParseTexts'. -/
def parseTextsUptoCard : Claim7 := { stood := { row := parseTextsUptoRow, standIns := [], harness := (true, "169fae74e2075c2f951f357cdb48ea0b5a0f6d2f71a2686a7588a130aeb72f1f"), looks := true }, kinds := [], alts := [], laidByText := true, laidKinds := [.data, .data, .data, .data, .sentinel, .sentinel, .pinned], laidTests := true, laidLooks := .later }
def ParseTextsUptoCardSaid : Prop := Claim7.holds Tryd.pinned (.plain (OpenSpec.upto parseTextsSpec)) parseTextsUptoCard

/-- THE SECOND FORM's CARD OF 'weirgatelaw22.ParseBack'. -/
def parseBackUptoCard : Claim7 := { stood := { row := parseBackUptoRow, standIns := [], harness := (true, "169fae74e2075c2f951f357cdb48ea0b5a0f6d2f71a2686a7588a130aeb72f1f"), looks := true }, kinds := [], alts := [], laidByText := true, laidKinds := [.data, .data, .data, .data, .sentinel, .sentinel, .pinned], laidTests := true, laidLooks := .later }
def ParseBackUptoCardSaid : Prop := Claim7.holds Tryd.pinned (.plain (OpenSpec.upto parseBackSpec)) parseBackUptoCard

/-- THE SECOND FORM's CARD OF 'weirgatelaw22.ParseBlanks'. -/
def parseBlanksUptoCard : Claim7 := { stood := { row := parseBlanksUptoRow, standIns := [], harness := (true, "169fae74e2075c2f951f357cdb48ea0b5a0f6d2f71a2686a7588a130aeb72f1f"), looks := true }, kinds := [], alts := [], laidByText := true, laidKinds := [.data, .data, .data, .data, .sentinel, .sentinel, .pinned], laidTests := true, laidLooks := .later }
def ParseBlanksUptoCardSaid : Prop := Claim7.holds Tryd.pinned (.plain (OpenSpec.upto parseBlanksSpec)) parseBlanksUptoCard

/-- THE SECOND FORM's CARD OF 'weirgatelaw24.ShowPorts'. -/
def showPortsUptoCard : Claim7 := { stood := { row := showPortsUptoRow, standIns := [], harness := (true, "169fae74e2075c2f951f357cdb48ea0b5a0f6d2f71a2686a7588a130aeb72f1f"), looks := true }, kinds := [], alts := [], laidByText := true, laidKinds := [.data, .data, .data, .data, .sentinel, .sentinel, .pinned], laidTests := true, laidLooks := .later }
def ShowPortsUptoCardSaid : Prop := Claim7.holds Tryd.pinned (.plain (OpenSpec.upto showPortsSpec)) showPortsUptoCard
end Rows
end Go.Proofs.YtijabmpcicddbaaDoor
