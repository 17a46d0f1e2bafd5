/-
  No cell of these rows narrows 'for every input' (looked for: loops, veiled, ifaces, maps, wideKeys, modest, calm, conditions, laid).
  DERIVED. THE GIVEN ROWS OF THIS SEAT. 13 by the template 'for every input the law returns true; each argument reads behind the call as it read before'; 0 by the template 'total and deterministic' (their statements: YtampnnhdgnhjaaaTotals.lean).
  GIVEN WITH THE SEED: the statements are not yours to turn. If you find one false, say at which input.
  Laid BY PROGRAM, IN A SANDBOX (cutbox-rows.mjs): the forced cells as the released guide's own fill.sh prints them over the translation d2ca0455ffcc3976… (all of the seat's roots in one cut). By AI agents, Wed Nov 11 2026. No macro, syntax, notation, axiom, sorry.
-/
import Derived.Test.YtampnnhdgnhjaaaChecked
import GoSem.Claim
import GoSem.ClaimJoined
import GoSem.ClaimMapViews
import Derived.JoinedTies
import Derived.KernelRfl
namespace Go.Proofs.Ytampnnhdgnhjaaa
/- THE CELL 'sum', in the pinned program and in every row, IS THE sha256 OF THE DUMP (.gsa) THAT YtampnnhdgnhjaaaProg.lean LOADS. Nothing in Lean hashes anything: it is a label: what it is worth is what the hold of that sum in a sandbox is worth. -/
noncomputable def Try.pinned : Pinned := { name := "ytampnnhdgnhjaaa", sum := "d2ca0455ffcc39761a84ffef25534ebb6d5fe7f971c2cc32ba8e5651ed7b3f43", checked := Try.checked }
namespace Rows
def none {H : Type} : Left H := { results := [], args := [] }

/-- 'weirgatelaw11.BpduFrames': WHATEVER THE INPUT: true; the input reads as it did. -/
def bpduFramesSpec : ChangeSpec := { name := "bpduFrames", fn := fun _ => fun
  | [d1, d2, d3] => { results := [.lit (.bool true)], args := [d1, d2, d3] }
  | _ => none }
def bpduFramesRow : OpenClaim := { program := "ytampnnhdgnhjaaa", sum := "d2ca0455ffcc39761a84ffef25534ebb6d5fe7f971c2cc32ba8e5651ed7b3f43", func := "weirgate/weirgatelaw11.BpduFrames", spec := "bpduFrames", plainKeys := false, apart := false }
def BpduFramesSaid : Prop := bpduFramesRow.holds Try.pinned (OpenSpec.ofChange bpduFramesSpec)

/-- ITS FALSE NEIGHBOUR: 'it returns false'. Refute it at one input. -/
def bpduFramesWrong : ChangeSpec := { name := "bpduFrames", fn := fun _ => fun
  | [d1, d2, d3] => { results := [.lit (.bool false)], args := [d1, d2, d3] }
  | _ => none }
def BpduFramesWrongFalsely : Prop := bpduFramesRow.holds Try.pinned (OpenSpec.ofChange bpduFramesWrong)

/-- 'weirgatelaw11.BpduFlags': WHATEVER THE INPUT: true; the input reads as it did. -/
def bpduFlagsSpec : ChangeSpec := { name := "bpduFlags", fn := fun _ => fun
  | [d] => { results := [.lit (.bool true)], args := [d] }
  | _ => none }
def bpduFlagsRow : OpenClaim := { program := "ytampnnhdgnhjaaa", sum := "d2ca0455ffcc39761a84ffef25534ebb6d5fe7f971c2cc32ba8e5651ed7b3f43", func := "weirgate/weirgatelaw11.BpduFlags", spec := "bpduFlags", plainKeys := false, apart := false }
def BpduFlagsSaid : Prop := bpduFlagsRow.holds Try.pinned (OpenSpec.ofChange bpduFlagsSpec)

/-- ITS FALSE NEIGHBOUR: 'it returns false'. Refute it at one input. -/
def bpduFlagsWrong : ChangeSpec := { name := "bpduFlags", fn := fun _ => fun
  | [d] => { results := [.lit (.bool false)], args := [d] }
  | _ => none }
def BpduFlagsWrongFalsely : Prop := bpduFlagsRow.holds Try.pinned (OpenSpec.ofChange bpduFlagsWrong)

/-- 'weirgatelaw10.FrameCodes': WHATEVER THE INPUT: true; the input reads as it did. -/
def frameCodesSpec : ChangeSpec := { name := "frameCodes", fn := fun _ => fun
  | [d1, d2] => { results := [.lit (.bool true)], args := [d1, d2] }
  | _ => none }
def frameCodesRow : OpenClaim := { program := "ytampnnhdgnhjaaa", sum := "d2ca0455ffcc39761a84ffef25534ebb6d5fe7f971c2cc32ba8e5651ed7b3f43", func := "weirgate/weirgatelaw10.FrameCodes", spec := "frameCodes", plainKeys := false, apart := false }
def FrameCodesSaid : Prop := frameCodesRow.holds Try.pinned (OpenSpec.ofChange frameCodesSpec)

/-- ITS FALSE NEIGHBOUR: 'it returns false'. Refute it at one input. -/
def frameCodesWrong : ChangeSpec := { name := "frameCodes", fn := fun _ => fun
  | [d1, d2] => { results := [.lit (.bool false)], args := [d1, d2] }
  | _ => none }
def FrameCodesWrongFalsely : Prop := frameCodesRow.holds Try.pinned (OpenSpec.ofChange frameCodesWrong)

/-- 'weirgatelaw10.FrameTags': WHATEVER THE INPUT: true; the input reads as it did. -/
def frameTagsSpec : ChangeSpec := { name := "frameTags", fn := fun _ => fun
  | [d1, d2] => { results := [.lit (.bool true)], args := [d1, d2] }
  | _ => none }
def frameTagsRow : OpenClaim := { program := "ytampnnhdgnhjaaa", sum := "d2ca0455ffcc39761a84ffef25534ebb6d5fe7f971c2cc32ba8e5651ed7b3f43", func := "weirgate/weirgatelaw10.FrameTags", spec := "frameTags", plainKeys := false, apart := false }
def FrameTagsSaid : Prop := frameTagsRow.holds Try.pinned (OpenSpec.ofChange frameTagsSpec)

/-- ITS FALSE NEIGHBOUR: 'it returns false'. Refute it at one input. -/
def frameTagsWrong : ChangeSpec := { name := "frameTags", fn := fun _ => fun
  | [d1, d2] => { results := [.lit (.bool false)], args := [d1, d2] }
  | _ => none }
def FrameTagsWrongFalsely : Prop := frameTagsRow.holds Try.pinned (OpenSpec.ofChange frameTagsWrong)

/-- 'weirgatelaw10.FrameBack': WHATEVER THE INPUT: true; the input reads as it did. -/
def frameBackSpec : ChangeSpec := { name := "frameBack", fn := fun _ => fun
  | [d1, d2, d3] => { results := [.lit (.bool true)], args := [d1, d2, d3] }
  | _ => none }
def frameBackRow : OpenClaim := { program := "ytampnnhdgnhjaaa", sum := "d2ca0455ffcc39761a84ffef25534ebb6d5fe7f971c2cc32ba8e5651ed7b3f43", func := "weirgate/weirgatelaw10.FrameBack", spec := "frameBack", plainKeys := false, apart := false }
def FrameBackSaid : Prop := frameBackRow.holds Try.pinned (OpenSpec.ofChange frameBackSpec)

/-- ITS FALSE NEIGHBOUR: 'it returns false'. Refute it at one input. -/
def frameBackWrong : ChangeSpec := { name := "frameBack", fn := fun _ => fun
  | [d1, d2, d3] => { results := [.lit (.bool false)], args := [d1, d2, d3] }
  | _ => none }
def FrameBackWrongFalsely : Prop := frameBackRow.holds Try.pinned (OpenSpec.ofChange frameBackWrong)

/-- 'weirgatelaw10.FrameSizes': WHATEVER THE INPUT: true; the input reads as it did. -/
def frameSizesSpec : ChangeSpec := { name := "frameSizes", fn := fun _ => fun
  | [d1, d2] => { results := [.lit (.bool true)], args := [d1, d2] }
  | _ => none }
def frameSizesRow : OpenClaim := { program := "ytampnnhdgnhjaaa", sum := "d2ca0455ffcc39761a84ffef25534ebb6d5fe7f971c2cc32ba8e5651ed7b3f43", func := "weirgate/weirgatelaw10.FrameSizes", spec := "frameSizes", plainKeys := false, apart := false }
def FrameSizesSaid : Prop := frameSizesRow.holds Try.pinned (OpenSpec.ofChange frameSizesSpec)

/-- ITS FALSE NEIGHBOUR: 'it returns false'. Refute it at one input. -/
def frameSizesWrong : ChangeSpec := { name := "frameSizes", fn := fun _ => fun
  | [d1, d2] => { results := [.lit (.bool false)], args := [d1, d2] }
  | _ => none }
def FrameSizesWrongFalsely : Prop := frameSizesRow.holds Try.pinned (OpenSpec.ofChange frameSizesWrong)

/-- 'weirgatelaw11.BpduBack': WHATEVER THE INPUT: true; the input reads as it did. -/
def bpduBackSpec : ChangeSpec := { name := "bpduBack", fn := fun _ => fun
  | [d1, d2, d3] => { results := [.lit (.bool true)], args := [d1, d2, d3] }
  | _ => none }
def bpduBackRow : OpenClaim := { program := "ytampnnhdgnhjaaa", sum := "d2ca0455ffcc39761a84ffef25534ebb6d5fe7f971c2cc32ba8e5651ed7b3f43", func := "weirgate/weirgatelaw11.BpduBack", spec := "bpduBack", plainKeys := false, apart := false }
def BpduBackSaid : Prop := bpduBackRow.holds Try.pinned (OpenSpec.ofChange bpduBackSpec)

/-- ITS FALSE NEIGHBOUR: 'it returns false'. Refute it at one input. -/
def bpduBackWrong : ChangeSpec := { name := "bpduBack", fn := fun _ => fun
  | [d1, d2, d3] => { results := [.lit (.bool false)], args := [d1, d2, d3] }
  | _ => none }
def BpduBackWrongFalsely : Prop := bpduBackRow.holds Try.pinned (OpenSpec.ofChange bpduBackWrong)

/-- 'weirgatelaw18.FdbRoom': WHATEVER THE INPUT: true; the input reads as it did. -/
def fdbRoomSpec : ChangeSpec := { name := "fdbRoom", fn := fun _ => fun
  | [d] => { results := [.lit (.bool true)], args := [d] }
  | _ => none }
def fdbRoomRow : OpenClaim := { program := "ytampnnhdgnhjaaa", sum := "d2ca0455ffcc39761a84ffef25534ebb6d5fe7f971c2cc32ba8e5651ed7b3f43", func := "weirgate/weirgatelaw18.FdbRoom", spec := "fdbRoom", inPlace := ["slices.overlaps[weirgate/fdb.Entry]"], unfollowed := true, recurses := true, plainKeys := false, apart := false }
def FdbRoomSaid : Prop := fdbRoomRow.holds Try.pinned (OpenSpec.ofChange fdbRoomSpec)

/-- ITS FALSE NEIGHBOUR: 'it returns false'. Refute it at one input. -/
def fdbRoomWrong : ChangeSpec := { name := "fdbRoom", fn := fun _ => fun
  | [d] => { results := [.lit (.bool false)], args := [d] }
  | _ => none }
def FdbRoomWrongFalsely : Prop := fdbRoomRow.holds Try.pinned (OpenSpec.ofChange fdbRoomWrong)

/-- 'weirgatelaw18.FdbAges': WHATEVER THE INPUT: true; the input reads as it did. -/
def fdbAgesSpec : ChangeSpec := { name := "fdbAges", fn := fun _ => fun
  | [d1, d2, d3] => { results := [.lit (.bool true)], args := [d1, d2, d3] }
  | _ => none }
def fdbAgesRow : OpenClaim := { program := "ytampnnhdgnhjaaa", sum := "d2ca0455ffcc39761a84ffef25534ebb6d5fe7f971c2cc32ba8e5651ed7b3f43", func := "weirgate/weirgatelaw18.FdbAges", spec := "fdbAges", inPlace := ["slices.overlaps[weirgate/fdb.Entry]"], unfollowed := true, recurses := true, plainKeys := false, apart := false }
def FdbAgesSaid : Prop := fdbAgesRow.holds Try.pinned (OpenSpec.ofChange fdbAgesSpec)

/-- ITS FALSE NEIGHBOUR: 'it returns false'. Refute it at one input. -/
def fdbAgesWrong : ChangeSpec := { name := "fdbAges", fn := fun _ => fun
  | [d1, d2, d3] => { results := [.lit (.bool false)], args := [d1, d2, d3] }
  | _ => none }
def FdbAgesWrongFalsely : Prop := fdbAgesRow.holds Try.pinned (OpenSpec.ofChange fdbAgesWrong)

/-- 'weirgatelaw18.FdbMoves': WHATEVER THE INPUT: true; the input reads as it did. -/
def fdbMovesSpec : ChangeSpec := { name := "fdbMoves", fn := fun _ => fun
  | [d1, d2] => { results := [.lit (.bool true)], args := [d1, d2] }
  | _ => none }
def fdbMovesRow : OpenClaim := { program := "ytampnnhdgnhjaaa", sum := "d2ca0455ffcc39761a84ffef25534ebb6d5fe7f971c2cc32ba8e5651ed7b3f43", func := "weirgate/weirgatelaw18.FdbMoves", spec := "fdbMoves", inPlace := ["slices.overlaps[weirgate/fdb.Entry]"], unfollowed := true, recurses := true, plainKeys := false, apart := false }
def FdbMovesSaid : Prop := fdbMovesRow.holds Try.pinned (OpenSpec.ofChange fdbMovesSpec)

/-- ITS FALSE NEIGHBOUR: 'it returns false'. Refute it at one input. -/
def fdbMovesWrong : ChangeSpec := { name := "fdbMoves", fn := fun _ => fun
  | [d1, d2] => { results := [.lit (.bool false)], args := [d1, d2] }
  | _ => none }
def FdbMovesWrongFalsely : Prop := fdbMovesRow.holds Try.pinned (OpenSpec.ofChange fdbMovesWrong)

/-- 'weirgatelaw18.FdbPlays': WHATEVER THE INPUT: true; the input reads as it did. -/
def fdbPlaysSpec : ChangeSpec := { name := "fdbPlays", fn := fun _ => fun
  | [d] => { results := [.lit (.bool true)], args := [d] }
  | _ => none }
def fdbPlaysRow : OpenClaim := { program := "ytampnnhdgnhjaaa", sum := "d2ca0455ffcc39761a84ffef25534ebb6d5fe7f971c2cc32ba8e5651ed7b3f43", func := "weirgate/weirgatelaw18.FdbPlays", spec := "fdbPlays", inPlace := ["slices.overlaps[weirgate/fdb.Entry]"], unfollowed := true, recurses := true, plainKeys := false, apart := false }
def FdbPlaysSaid : Prop := fdbPlaysRow.holds Try.pinned (OpenSpec.ofChange fdbPlaysSpec)

/-- ITS FALSE NEIGHBOUR: 'it returns false'. Refute it at one input. -/
def fdbPlaysWrong : ChangeSpec := { name := "fdbPlays", fn := fun _ => fun
  | [d] => { results := [.lit (.bool false)], args := [d] }
  | _ => none }
def FdbPlaysWrongFalsely : Prop := fdbPlaysRow.holds Try.pinned (OpenSpec.ofChange fdbPlaysWrong)

/-- 'weirgatelaw18.FdbNone': WHATEVER THE INPUT: true; the input reads as it did. -/
def fdbNoneSpec : ChangeSpec := { name := "fdbNone", fn := fun _ => fun
  | [d] => { results := [.lit (.bool true)], args := [d] }
  | _ => none }
def fdbNoneRow : OpenClaim := { program := "ytampnnhdgnhjaaa", sum := "d2ca0455ffcc39761a84ffef25534ebb6d5fe7f971c2cc32ba8e5651ed7b3f43", func := "weirgate/weirgatelaw18.FdbNone", spec := "fdbNone", inPlace := ["slices.overlaps[weirgate/fdb.Entry]"], unfollowed := true, recurses := true, plainKeys := false, apart := false }
def FdbNoneSaid : Prop := fdbNoneRow.holds Try.pinned (OpenSpec.ofChange fdbNoneSpec)

/-- ITS FALSE NEIGHBOUR: 'it returns false'. Refute it at one input. -/
def fdbNoneWrong : ChangeSpec := { name := "fdbNone", fn := fun _ => fun
  | [d] => { results := [.lit (.bool false)], args := [d] }
  | _ => none }
def FdbNoneWrongFalsely : Prop := fdbNoneRow.holds Try.pinned (OpenSpec.ofChange fdbNoneWrong)

/-- 'weirgatelaw18.FdbFlushes': WHATEVER THE INPUT: true; the input reads as it did. -/
def fdbFlushesSpec : ChangeSpec := { name := "fdbFlushes", fn := fun _ => fun
  | [d1, d2] => { results := [.lit (.bool true)], args := [d1, d2] }
  | _ => none }
def fdbFlushesRow : OpenClaim := { program := "ytampnnhdgnhjaaa", sum := "d2ca0455ffcc39761a84ffef25534ebb6d5fe7f971c2cc32ba8e5651ed7b3f43", func := "weirgate/weirgatelaw18.FdbFlushes", spec := "fdbFlushes", inPlace := ["slices.overlaps[weirgate/fdb.Entry]"], unfollowed := true, recurses := true, plainKeys := false, apart := false }
def FdbFlushesSaid : Prop := fdbFlushesRow.holds Try.pinned (OpenSpec.ofChange fdbFlushesSpec)

/-- ITS FALSE NEIGHBOUR: 'it returns false'. Refute it at one input. -/
def fdbFlushesWrong : ChangeSpec := { name := "fdbFlushes", fn := fun _ => fun
  | [d1, d2] => { results := [.lit (.bool false)], args := [d1, d2] }
  | _ => none }
def FdbFlushesWrongFalsely : Prop := fdbFlushesRow.holds Try.pinned (OpenSpec.ofChange fdbFlushesWrong)

/- THE SECOND FORM. 'bulk': how many values and letters a reading holds, each counted each time it is reached (what is shared counts as often as it is met; a slice's spare places count too). A statement '..UptoSaid' is the law's where the arguments, and the package variables that the reading takes, are together of bulk at most 1048576: NARROWER than '..Said'. Prove '..Said' where nothing that the law and all that it calls make is longer than what came in: it says more and counts as full. Else prove '..UptoSaid'. A law counts once. -/
mutual
def uptoBulk {H : Type} : DataW H → Nat
  | .lit (.string bytes) => bytes.length + 1
  | .lit _ => 1
  | .nil => 1
  | .ptr d => uptoBulk d + 1
  | .slice elems spare => uptoBulkAll elems + uptoBulkAll spare + 1
  | .agg parts => uptoBulkAll parts + 1
  | .iface _ d => uptoBulk d + 1
  | .map entries => uptoBulkEntries entries + 1
  | .held _ => 1
def uptoBulkAll {H : Type} : List (DataW H) → Nat
  | [] => 0
  | d :: r => uptoBulk d + uptoBulkAll r
def uptoBulkEntries {H : Type} : List (Lit × DataW H) → Nat
  | [] => 0
  | x :: r => uptoBulkEntry x + uptoBulkEntries r
def uptoBulkEntry {H : Type} : Lit × DataW H → Nat
  | (.string bytes, d) => bytes.length + uptoBulk d + 1
  | (_, d) => uptoBulk d + 1
 end
def uptoSmall : (H : Type) → List (DataW H) → Bool := fun _ ds => decide (uptoBulkAll ds ≤ 1048576)
def OpenSpec.upto (s : _root_.Go.ChangeSpec) : _root_.Go.OpenSpec := { _root_.Go.OpenSpec.ofChange s with cond := some uptoSmall }

/-- 'weirgatelaw11.BpduFrames', WHERE WHAT IT READS IS OF BULK AT MOST 1048576: true; the input reads as it did. -/
def bpduFramesUptoRow : OpenClaim := { program := "ytampnnhdgnhjaaa", sum := "d2ca0455ffcc39761a84ffef25534ebb6d5fe7f971c2cc32ba8e5651ed7b3f43", func := "weirgate/weirgatelaw11.BpduFrames", spec := "bpduFrames", plainKeys := false, apart := false, narrowed := true }
def BpduFramesUptoSaid : Prop := bpduFramesUptoRow.holds Try.pinned (OpenSpec.upto bpduFramesSpec)

/-- 'weirgatelaw11.BpduFlags', WHERE WHAT IT READS IS OF BULK AT MOST 1048576: true; the input reads as it did. -/
def bpduFlagsUptoRow : OpenClaim := { program := "ytampnnhdgnhjaaa", sum := "d2ca0455ffcc39761a84ffef25534ebb6d5fe7f971c2cc32ba8e5651ed7b3f43", func := "weirgate/weirgatelaw11.BpduFlags", spec := "bpduFlags", plainKeys := false, apart := false, narrowed := true }
def BpduFlagsUptoSaid : Prop := bpduFlagsUptoRow.holds Try.pinned (OpenSpec.upto bpduFlagsSpec)

/-- 'weirgatelaw10.FrameCodes', WHERE WHAT IT READS IS OF BULK AT MOST 1048576: true; the input reads as it did. -/
def frameCodesUptoRow : OpenClaim := { program := "ytampnnhdgnhjaaa", sum := "d2ca0455ffcc39761a84ffef25534ebb6d5fe7f971c2cc32ba8e5651ed7b3f43", func := "weirgate/weirgatelaw10.FrameCodes", spec := "frameCodes", plainKeys := false, apart := false, narrowed := true }
def FrameCodesUptoSaid : Prop := frameCodesUptoRow.holds Try.pinned (OpenSpec.upto frameCodesSpec)

/-- 'weirgatelaw10.FrameTags', WHERE WHAT IT READS IS OF BULK AT MOST 1048576: true; the input reads as it did. -/
def frameTagsUptoRow : OpenClaim := { program := "ytampnnhdgnhjaaa", sum := "d2ca0455ffcc39761a84ffef25534ebb6d5fe7f971c2cc32ba8e5651ed7b3f43", func := "weirgate/weirgatelaw10.FrameTags", spec := "frameTags", plainKeys := false, apart := false, narrowed := true }
def FrameTagsUptoSaid : Prop := frameTagsUptoRow.holds Try.pinned (OpenSpec.upto frameTagsSpec)

/-- 'weirgatelaw10.FrameBack', WHERE WHAT IT READS IS OF BULK AT MOST 1048576: true; the input reads as it did. -/
def frameBackUptoRow : OpenClaim := { program := "ytampnnhdgnhjaaa", sum := "d2ca0455ffcc39761a84ffef25534ebb6d5fe7f971c2cc32ba8e5651ed7b3f43", func := "weirgate/weirgatelaw10.FrameBack", spec := "frameBack", plainKeys := false, apart := false, narrowed := true }
def FrameBackUptoSaid : Prop := frameBackUptoRow.holds Try.pinned (OpenSpec.upto frameBackSpec)

/-- 'weirgatelaw10.FrameSizes', WHERE WHAT IT READS IS OF BULK AT MOST 1048576: true; the input reads as it did. -/
def frameSizesUptoRow : OpenClaim := { program := "ytampnnhdgnhjaaa", sum := "d2ca0455ffcc39761a84ffef25534ebb6d5fe7f971c2cc32ba8e5651ed7b3f43", func := "weirgate/weirgatelaw10.FrameSizes", spec := "frameSizes", plainKeys := false, apart := false, narrowed := true }
def FrameSizesUptoSaid : Prop := frameSizesUptoRow.holds Try.pinned (OpenSpec.upto frameSizesSpec)

/-- 'weirgatelaw11.BpduBack', WHERE WHAT IT READS IS OF BULK AT MOST 1048576: true; the input reads as it did. -/
def bpduBackUptoRow : OpenClaim := { program := "ytampnnhdgnhjaaa", sum := "d2ca0455ffcc39761a84ffef25534ebb6d5fe7f971c2cc32ba8e5651ed7b3f43", func := "weirgate/weirgatelaw11.BpduBack", spec := "bpduBack", plainKeys := false, apart := false, narrowed := true }
def BpduBackUptoSaid : Prop := bpduBackUptoRow.holds Try.pinned (OpenSpec.upto bpduBackSpec)

/-- 'weirgatelaw18.FdbRoom', WHERE WHAT IT READS IS OF BULK AT MOST 1048576: true; the input reads as it did. -/
def fdbRoomUptoRow : OpenClaim := { program := "ytampnnhdgnhjaaa", sum := "d2ca0455ffcc39761a84ffef25534ebb6d5fe7f971c2cc32ba8e5651ed7b3f43", func := "weirgate/weirgatelaw18.FdbRoom", spec := "fdbRoom", inPlace := ["slices.overlaps[weirgate/fdb.Entry]"], unfollowed := true, recurses := true, plainKeys := false, apart := false, narrowed := true }
def FdbRoomUptoSaid : Prop := fdbRoomUptoRow.holds Try.pinned (OpenSpec.upto fdbRoomSpec)

/-- 'weirgatelaw18.FdbAges', WHERE WHAT IT READS IS OF BULK AT MOST 1048576: true; the input reads as it did. -/
def fdbAgesUptoRow : OpenClaim := { program := "ytampnnhdgnhjaaa", sum := "d2ca0455ffcc39761a84ffef25534ebb6d5fe7f971c2cc32ba8e5651ed7b3f43", func := "weirgate/weirgatelaw18.FdbAges", spec := "fdbAges", inPlace := ["slices.overlaps[weirgate/fdb.Entry]"], unfollowed := true, recurses := true, plainKeys := false, apart := false, narrowed := true }
def FdbAgesUptoSaid : Prop := fdbAgesUptoRow.holds Try.pinned (OpenSpec.upto fdbAgesSpec)

/-- 'weirgatelaw18.FdbMoves', WHERE WHAT IT READS IS OF BULK AT MOST 1048576: true; the input reads as it did. -/
def fdbMovesUptoRow : OpenClaim := { program := "ytampnnhdgnhjaaa", sum := "d2ca0455ffcc39761a84ffef25534ebb6d5fe7f971c2cc32ba8e5651ed7b3f43", func := "weirgate/weirgatelaw18.FdbMoves", spec := "fdbMoves", inPlace := ["slices.overlaps[weirgate/fdb.Entry]"], unfollowed := true, recurses := true, plainKeys := false, apart := false, narrowed := true }
def FdbMovesUptoSaid : Prop := fdbMovesUptoRow.holds Try.pinned (OpenSpec.upto fdbMovesSpec)

/-- 'weirgatelaw18.FdbPlays', WHERE WHAT IT READS IS OF BULK AT MOST 1048576: true; the input reads as it did. -/
def fdbPlaysUptoRow : OpenClaim := { program := "ytampnnhdgnhjaaa", sum := "d2ca0455ffcc39761a84ffef25534ebb6d5fe7f971c2cc32ba8e5651ed7b3f43", func := "weirgate/weirgatelaw18.FdbPlays", spec := "fdbPlays", inPlace := ["slices.overlaps[weirgate/fdb.Entry]"], unfollowed := true, recurses := true, plainKeys := false, apart := false, narrowed := true }
def FdbPlaysUptoSaid : Prop := fdbPlaysUptoRow.holds Try.pinned (OpenSpec.upto fdbPlaysSpec)

/-- 'weirgatelaw18.FdbNone', WHERE WHAT IT READS IS OF BULK AT MOST 1048576: true; the input reads as it did. -/
def fdbNoneUptoRow : OpenClaim := { program := "ytampnnhdgnhjaaa", sum := "d2ca0455ffcc39761a84ffef25534ebb6d5fe7f971c2cc32ba8e5651ed7b3f43", func := "weirgate/weirgatelaw18.FdbNone", spec := "fdbNone", inPlace := ["slices.overlaps[weirgate/fdb.Entry]"], unfollowed := true, recurses := true, plainKeys := false, apart := false, narrowed := true }
def FdbNoneUptoSaid : Prop := fdbNoneUptoRow.holds Try.pinned (OpenSpec.upto fdbNoneSpec)

/-- 'weirgatelaw18.FdbFlushes', WHERE WHAT IT READS IS OF BULK AT MOST 1048576: true; the input reads as it did. -/
def fdbFlushesUptoRow : OpenClaim := { program := "ytampnnhdgnhjaaa", sum := "d2ca0455ffcc39761a84ffef25534ebb6d5fe7f971c2cc32ba8e5651ed7b3f43", func := "weirgate/weirgatelaw18.FdbFlushes", spec := "fdbFlushes", inPlace := ["slices.overlaps[weirgate/fdb.Entry]"], unfollowed := true, recurses := true, plainKeys := false, apart := false, narrowed := true }
def FdbFlushesUptoSaid : Prop := fdbFlushesUptoRow.holds Try.pinned (OpenSpec.upto fdbFlushesSpec)

end Rows
end Go.Proofs.Ytampnnhdgnhjaaa
