/-
  No cell of these rows narrows 'for every input' (looked for: loops, veiled, ifaces, maps, wideKeys, modest, calm, conditions, laid).
  DERIVED. THE GIVEN ROWS OF THIS SEAT. 7 by the template 'for every input the law returns true; each argument reads behind the call as it read before'; 0 by the template 'total and deterministic' (their statements: YtijabmpcicddbaaTotals.lean).
  GIVEN WITH THE SEED: the statements are not yours to turn. If you find one false, say at which input.
  Laid BY PROGRAM, IN A SANDBOX (cutbox-rows.mjs): the forced cells as the released guide's own fill.sh prints them over the translation 7fa2a53e767ffaa3… (all of the seat's roots in one cut). By AI agents, Wed Nov 11 2026. No macro, syntax, notation, axiom, sorry.
-/
import Derived.Test.YtijabmpcicddbaaChecked
import GoSem.Claim
import GoSem.ClaimJoined
import GoSem.ClaimMapViews
import Derived.JoinedTies
import Derived.KernelRfl
namespace Go.Proofs.Ytijabmpcicddbaa
/- THE CELL 'sum', in the pinned program and in every row, IS THE sha256 OF THE DUMP (.gsa) THAT YtijabmpcicddbaaProg.lean LOADS. Nothing in Lean hashes anything: it is a label: what it is worth is what the hold of that sum in a sandbox is worth. -/
noncomputable def Try.pinned : Pinned := { name := "ytijabmpcicddbaa", sum := "7fa2a53e767ffaa3585f9778248804da17abb897889fd3b6288c5e5e9e4bcbff", checked := Try.checked }
namespace Rows
def none {H : Type} : Left H := { results := [], args := [] }

/-- 'weirgatelaw19.VlanTells': WHATEVER THE INPUT: true; the input reads as it did. -/
def vlanTellsSpec : ChangeSpec := { name := "vlanTells", fn := fun _ => fun
  | [d1, d2, d3] => { results := [.lit (.bool true)], args := [d1, d2, d3] }
  | _ => none }
def vlanTellsRow : OpenClaim := { program := "ytijabmpcicddbaa", sum := "7fa2a53e767ffaa3585f9778248804da17abb897889fd3b6288c5e5e9e4bcbff", func := "weirgate/weirgatelaw19.VlanTells", spec := "vlanTells", recurses := true, plainKeys := false, apart := false }
def VlanTellsSaid : Prop := vlanTellsRow.holds Try.pinned (OpenSpec.ofChange vlanTellsSpec)

/-- ITS FALSE NEIGHBOUR: 'it returns false'. Refute it at one input. -/
def vlanTellsWrong : ChangeSpec := { name := "vlanTells", fn := fun _ => fun
  | [d1, d2, d3] => { results := [.lit (.bool false)], args := [d1, d2, d3] }
  | _ => none }
def VlanTellsWrongFalsely : Prop := vlanTellsRow.holds Try.pinned (OpenSpec.ofChange vlanTellsWrong)

/-- 'weirgatelaw19.VlanThere': WHATEVER THE INPUT: true; the input reads as it did. -/
def vlanThereSpec : ChangeSpec := { name := "vlanThere", fn := fun _ => fun
  | [d1, d2, d3] => { results := [.lit (.bool true)], args := [d1, d2, d3] }
  | _ => none }
def vlanThereRow : OpenClaim := { program := "ytijabmpcicddbaa", sum := "7fa2a53e767ffaa3585f9778248804da17abb897889fd3b6288c5e5e9e4bcbff", func := "weirgate/weirgatelaw19.VlanThere", spec := "vlanThere", recurses := true, plainKeys := false, apart := false }
def VlanThereSaid : Prop := vlanThereRow.holds Try.pinned (OpenSpec.ofChange vlanThereSpec)

/-- ITS FALSE NEIGHBOUR: 'it returns false'. Refute it at one input. -/
def vlanThereWrong : ChangeSpec := { name := "vlanThere", fn := fun _ => fun
  | [d1, d2, d3] => { results := [.lit (.bool false)], args := [d1, d2, d3] }
  | _ => none }
def VlanThereWrongFalsely : Prop := vlanThereRow.holds Try.pinned (OpenSpec.ofChange vlanThereWrong)

/-- 'weirgatelaw19.VlanFirst': WHATEVER THE INPUT: true; the input reads as it did. -/
def vlanFirstSpec : ChangeSpec := { name := "vlanFirst", fn := fun _ => fun
  | [d1, d2, d3] => { results := [.lit (.bool true)], args := [d1, d2, d3] }
  | _ => none }
def vlanFirstRow : OpenClaim := { program := "ytijabmpcicddbaa", sum := "7fa2a53e767ffaa3585f9778248804da17abb897889fd3b6288c5e5e9e4bcbff", func := "weirgate/weirgatelaw19.VlanFirst", spec := "vlanFirst", recurses := true, plainKeys := false, apart := false }
def VlanFirstSaid : Prop := vlanFirstRow.holds Try.pinned (OpenSpec.ofChange vlanFirstSpec)

/-- ITS FALSE NEIGHBOUR: 'it returns false'. Refute it at one input. -/
def vlanFirstWrong : ChangeSpec := { name := "vlanFirst", fn := fun _ => fun
  | [d1, d2, d3] => { results := [.lit (.bool false)], args := [d1, d2, d3] }
  | _ => none }
def VlanFirstWrongFalsely : Prop := vlanFirstRow.holds Try.pinned (OpenSpec.ofChange vlanFirstWrong)

/-- 'weirgatelaw20.PlaneFloods': WHATEVER THE INPUT: true; the input reads as it did. -/
def planeFloodsSpec : ChangeSpec := { name := "planeFloods", fn := fun _ => fun
  | [d1, d2, d3] => { results := [.lit (.bool true)], args := [d1, d2, d3] }
  | _ => none }
def planeFloodsRow : OpenClaim := { program := "ytijabmpcicddbaa", sum := "7fa2a53e767ffaa3585f9778248804da17abb897889fd3b6288c5e5e9e4bcbff", func := "weirgate/weirgatelaw20.PlaneFloods", spec := "planeFloods", inPlace := ["slices.overlaps[weirgate/fdb.Entry]"], unfollowed := true, recurses := true, plainKeys := false, apart := false }
def PlaneFloodsSaid : Prop := planeFloodsRow.holds Try.pinned (OpenSpec.ofChange planeFloodsSpec)

/-- ITS FALSE NEIGHBOUR: 'it returns false'. Refute it at one input. -/
def planeFloodsWrong : ChangeSpec := { name := "planeFloods", fn := fun _ => fun
  | [d1, d2, d3] => { results := [.lit (.bool false)], args := [d1, d2, d3] }
  | _ => none }
def PlaneFloodsWrongFalsely : Prop := planeFloodsRow.holds Try.pinned (OpenSpec.ofChange planeFloodsWrong)

/-- 'weirgatelaw20.PlaneLearns': WHATEVER THE INPUT: true; the input reads as it did. -/
def planeLearnsSpec : ChangeSpec := { name := "planeLearns", fn := fun _ => fun
  | [d1, d2] => { results := [.lit (.bool true)], args := [d1, d2] }
  | _ => none }
def planeLearnsRow : OpenClaim := { program := "ytijabmpcicddbaa", sum := "7fa2a53e767ffaa3585f9778248804da17abb897889fd3b6288c5e5e9e4bcbff", func := "weirgate/weirgatelaw20.PlaneLearns", spec := "planeLearns", inPlace := ["slices.overlaps[weirgate/fdb.Entry]"], unfollowed := true, recurses := true, plainKeys := false, apart := false }
def PlaneLearnsSaid : Prop := planeLearnsRow.holds Try.pinned (OpenSpec.ofChange planeLearnsSpec)

/-- ITS FALSE NEIGHBOUR: 'it returns false'. Refute it at one input. -/
def planeLearnsWrong : ChangeSpec := { name := "planeLearns", fn := fun _ => fun
  | [d1, d2] => { results := [.lit (.bool false)], args := [d1, d2] }
  | _ => none }
def PlaneLearnsWrongFalsely : Prop := planeLearnsRow.holds Try.pinned (OpenSpec.ofChange planeLearnsWrong)

/-- 'weirgatelaw20.PlaneKeeps': WHATEVER THE INPUT: true; the input reads as it did. -/
def planeKeepsSpec : ChangeSpec := { name := "planeKeeps", fn := fun _ => fun
  | [d1, d2] => { results := [.lit (.bool true)], args := [d1, d2] }
  | _ => none }
def planeKeepsRow : OpenClaim := { program := "ytijabmpcicddbaa", sum := "7fa2a53e767ffaa3585f9778248804da17abb897889fd3b6288c5e5e9e4bcbff", func := "weirgate/weirgatelaw20.PlaneKeeps", spec := "planeKeeps", inPlace := ["slices.overlaps[weirgate/fdb.Entry]"], unfollowed := true, recurses := true, plainKeys := false, apart := false }
def PlaneKeepsSaid : Prop := planeKeepsRow.holds Try.pinned (OpenSpec.ofChange planeKeepsSpec)

/-- ITS FALSE NEIGHBOUR: 'it returns false'. Refute it at one input. -/
def planeKeepsWrong : ChangeSpec := { name := "planeKeeps", fn := fun _ => fun
  | [d1, d2] => { results := [.lit (.bool false)], args := [d1, d2] }
  | _ => none }
def PlaneKeepsWrongFalsely : Prop := planeKeepsRow.holds Try.pinned (OpenSpec.ofChange planeKeepsWrong)

/-- 'weirgatelaw20.PlaneStatics': WHATEVER THE INPUT: true; the input reads as it did. -/
def planeStaticsSpec : ChangeSpec := { name := "planeStatics", fn := fun _ => fun
  | [d] => { results := [.lit (.bool true)], args := [d] }
  | _ => none }
def planeStaticsRow : OpenClaim := { program := "ytijabmpcicddbaa", sum := "7fa2a53e767ffaa3585f9778248804da17abb897889fd3b6288c5e5e9e4bcbff", func := "weirgate/weirgatelaw20.PlaneStatics", spec := "planeStatics", inPlace := ["slices.overlaps[weirgate/fdb.Entry]"], unfollowed := true, recurses := true, plainKeys := false, apart := false }
def PlaneStaticsSaid : Prop := planeStaticsRow.holds Try.pinned (OpenSpec.ofChange planeStaticsSpec)

/-- ITS FALSE NEIGHBOUR: 'it returns false'. Refute it at one input. -/
def planeStaticsWrong : ChangeSpec := { name := "planeStatics", fn := fun _ => fun
  | [d] => { results := [.lit (.bool false)], args := [d] }
  | _ => none }
def PlaneStaticsWrongFalsely : Prop := planeStaticsRow.holds Try.pinned (OpenSpec.ofChange planeStaticsWrong)

/- THE SECOND FORM. 'bulk': how many values and letters a reading holds, each counted each time it is reached (what is shared counts as often as it is met; a slice's spare places count too). A statement '..UptoSaid' is the law's where the arguments, and the package variables that the reading takes, are together of bulk at most 1048576: NARROWER than '..Said'. Prove '..Said' where nothing that the law and all that it calls make is longer than what came in: it says more and counts as full. Else prove '..UptoSaid'. A law counts once. -/
mutual
def uptoBulk {H : Type} : DataW H → Nat
  | .lit (.string bytes) => bytes.length + 1
  | .lit _ => 1
  | .nil => 1
  | .ptr d => uptoBulk d + 1
  | .slice elems spare => uptoBulkAll elems + uptoBulkAll spare + 1
  | .agg parts => uptoBulkAll parts + 1
  | .iface _ d => uptoBulk d + 1
  | .map entries => uptoBulkEntries entries + 1
  | .held _ => 1
def uptoBulkAll {H : Type} : List (DataW H) → Nat
  | [] => 0
  | d :: r => uptoBulk d + uptoBulkAll r
def uptoBulkEntries {H : Type} : List (Lit × DataW H) → Nat
  | [] => 0
  | x :: r => uptoBulkEntry x + uptoBulkEntries r
def uptoBulkEntry {H : Type} : Lit × DataW H → Nat
  | (.string bytes, d) => bytes.length + uptoBulk d + 1
  | (_, d) => uptoBulk d + 1
 end
def uptoSmall : (H : Type) → List (DataW H) → Bool := fun _ ds => decide (uptoBulkAll ds ≤ 1048576)
def OpenSpec.upto (s : _root_.Go.ChangeSpec) : _root_.Go.OpenSpec := { _root_.Go.OpenSpec.ofChange s with cond := some uptoSmall }

/-- 'weirgatelaw19.VlanTells', WHERE WHAT IT READS IS OF BULK AT MOST 1048576: true; the input reads as it did. -/
def vlanTellsUptoRow : OpenClaim := { program := "ytijabmpcicddbaa", sum := "7fa2a53e767ffaa3585f9778248804da17abb897889fd3b6288c5e5e9e4bcbff", func := "weirgate/weirgatelaw19.VlanTells", spec := "vlanTells", recurses := true, plainKeys := false, apart := false, narrowed := true }
def VlanTellsUptoSaid : Prop := vlanTellsUptoRow.holds Try.pinned (OpenSpec.upto vlanTellsSpec)

/-- 'weirgatelaw19.VlanThere', WHERE WHAT IT READS IS OF BULK AT MOST 1048576: true; the input reads as it did. -/
def vlanThereUptoRow : OpenClaim := { program := "ytijabmpcicddbaa", sum := "7fa2a53e767ffaa3585f9778248804da17abb897889fd3b6288c5e5e9e4bcbff", func := "weirgate/weirgatelaw19.VlanThere", spec := "vlanThere", recurses := true, plainKeys := false, apart := false, narrowed := true }
def VlanThereUptoSaid : Prop := vlanThereUptoRow.holds Try.pinned (OpenSpec.upto vlanThereSpec)

/-- 'weirgatelaw19.VlanFirst', WHERE WHAT IT READS IS OF BULK AT MOST 1048576: true; the input reads as it did. -/
def vlanFirstUptoRow : OpenClaim := { program := "ytijabmpcicddbaa", sum := "7fa2a53e767ffaa3585f9778248804da17abb897889fd3b6288c5e5e9e4bcbff", func := "weirgate/weirgatelaw19.VlanFirst", spec := "vlanFirst", recurses := true, plainKeys := false, apart := false, narrowed := true }
def VlanFirstUptoSaid : Prop := vlanFirstUptoRow.holds Try.pinned (OpenSpec.upto vlanFirstSpec)

/-- 'weirgatelaw20.PlaneFloods', WHERE WHAT IT READS IS OF BULK AT MOST 1048576: true; the input reads as it did. -/
def planeFloodsUptoRow : OpenClaim := { program := "ytijabmpcicddbaa", sum := "7fa2a53e767ffaa3585f9778248804da17abb897889fd3b6288c5e5e9e4bcbff", func := "weirgate/weirgatelaw20.PlaneFloods", spec := "planeFloods", inPlace := ["slices.overlaps[weirgate/fdb.Entry]"], unfollowed := true, recurses := true, plainKeys := false, apart := false, narrowed := true }
def PlaneFloodsUptoSaid : Prop := planeFloodsUptoRow.holds Try.pinned (OpenSpec.upto planeFloodsSpec)

/-- 'weirgatelaw20.PlaneLearns', WHERE WHAT IT READS IS OF BULK AT MOST 1048576: true; the input reads as it did. -/
def planeLearnsUptoRow : OpenClaim := { program := "ytijabmpcicddbaa", sum := "7fa2a53e767ffaa3585f9778248804da17abb897889fd3b6288c5e5e9e4bcbff", func := "weirgate/weirgatelaw20.PlaneLearns", spec := "planeLearns", inPlace := ["slices.overlaps[weirgate/fdb.Entry]"], unfollowed := true, recurses := true, plainKeys := false, apart := false, narrowed := true }
def PlaneLearnsUptoSaid : Prop := planeLearnsUptoRow.holds Try.pinned (OpenSpec.upto planeLearnsSpec)

/-- 'weirgatelaw20.PlaneKeeps', WHERE WHAT IT READS IS OF BULK AT MOST 1048576: true; the input reads as it did. -/
def planeKeepsUptoRow : OpenClaim := { program := "ytijabmpcicddbaa", sum := "7fa2a53e767ffaa3585f9778248804da17abb897889fd3b6288c5e5e9e4bcbff", func := "weirgate/weirgatelaw20.PlaneKeeps", spec := "planeKeeps", inPlace := ["slices.overlaps[weirgate/fdb.Entry]"], unfollowed := true, recurses := true, plainKeys := false, apart := false, narrowed := true }
def PlaneKeepsUptoSaid : Prop := planeKeepsUptoRow.holds Try.pinned (OpenSpec.upto planeKeepsSpec)

/-- 'weirgatelaw20.PlaneStatics', WHERE WHAT IT READS IS OF BULK AT MOST 1048576: true; the input reads as it did. -/
def planeStaticsUptoRow : OpenClaim := { program := "ytijabmpcicddbaa", sum := "7fa2a53e767ffaa3585f9778248804da17abb897889fd3b6288c5e5e9e4bcbff", func := "weirgate/weirgatelaw20.PlaneStatics", spec := "planeStatics", inPlace := ["slices.overlaps[weirgate/fdb.Entry]"], unfollowed := true, recurses := true, plainKeys := false, apart := false, narrowed := true }
def PlaneStaticsUptoSaid : Prop := planeStaticsUptoRow.holds Try.pinned (OpenSpec.upto planeStaticsSpec)

end Rows
end Go.Proofs.Ytijabmpcicddbaa
