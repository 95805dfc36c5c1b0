/-
  No cell of these rows narrows 'for every input' (looked for: loops, veiled, ifaces, maps, wideKeys, modest, calm, conditions, laid).
  DERIVED. THE GIVEN ROWS OF THIS SEAT. 12 by the template 'for every input the law returns true; each argument reads behind the call as it read before'; 0 by the template 'total and deterministic' (their statements: YtlhlgjjgnlobjaaTotals.lean).
  GIVEN WITH THE SEED: the statements are not yours to turn. If you find one false, say at which input.
  Laid BY PROGRAM, IN A SANDBOX (cutbox-rows.mjs): the forced cells as the released guide's own fill.sh prints them over the translation 80881280093effda… (all of the seat's roots in one cut). By AI agents, Wed Nov 11 2026. No macro, syntax, notation, axiom, sorry.
-/
import Derived.Test.YtlhlgjjgnlobjaaChecked
import GoSem.Claim
import GoSem.ClaimJoined
import GoSem.ClaimMapViews
import Derived.JoinedTies
import Derived.KernelRfl
namespace Go.Proofs.Ytlhlgjjgnlobjaa
/- THE CELL 'sum', in the pinned program and in every row, IS THE sha256 OF THE DUMP (.gsa) THAT YtlhlgjjgnlobjaaProg.lean LOADS. Nothing in Lean hashes anything: it is a label: what it is worth is what the hold of that sum in a sandbox is worth. -/
noncomputable def Try.pinned : Pinned := { name := "ytlhlgjjgnlobjaa", sum := "80881280093effdabfaeb130d8a4559ff3d94c93a7e4a2f9b6d21e153c7a434f", checked := Try.checked }
namespace Rows
def none {H : Type} : Left H := { results := [], args := [] }

/-- 'treeringlaw1.CrcSums': WHATEVER THE INPUT: true; the input reads as it did. -/
def crcSumsSpec : ChangeSpec := { name := "crcSums", fn := fun _ => fun
  | [d1, d2, d3] => { results := [.lit (.bool true)], args := [d1, d2, d3] }
  | _ => none }
def crcSumsRow : OpenClaim := { program := "ytlhlgjjgnlobjaa", sum := "80881280093effdabfaeb130d8a4559ff3d94c93a7e4a2f9b6d21e153c7a434f", func := "treering/treeringlaw1.CrcSums", spec := "crcSums", apart := false }
def CrcSumsSaid : Prop := crcSumsRow.holds Try.pinned (OpenSpec.ofChange crcSumsSpec)

/-- ITS FALSE NEIGHBOUR: 'it returns false'. Refute it at one input. -/
def crcSumsWrong : ChangeSpec := { name := "crcSums", fn := fun _ => fun
  | [d1, d2, d3] => { results := [.lit (.bool false)], args := [d1, d2, d3] }
  | _ => none }
def CrcSumsWrongFalsely : Prop := crcSumsRow.holds Try.pinned (OpenSpec.ofChange crcSumsWrong)

/-- 'treeringlaw1.CrcSees': WHATEVER THE INPUT: true; the input reads as it did. -/
def crcSeesSpec : ChangeSpec := { name := "crcSees", fn := fun _ => fun
  | [d1, d2, d3] => { results := [.lit (.bool true)], args := [d1, d2, d3] }
  | _ => none }
def crcSeesRow : OpenClaim := { program := "ytlhlgjjgnlobjaa", sum := "80881280093effdabfaeb130d8a4559ff3d94c93a7e4a2f9b6d21e153c7a434f", func := "treering/treeringlaw1.CrcSees", spec := "crcSees", apart := false }
def CrcSeesSaid : Prop := crcSeesRow.holds Try.pinned (OpenSpec.ofChange crcSeesSpec)

/-- ITS FALSE NEIGHBOUR: 'it returns false'. Refute it at one input. -/
def crcSeesWrong : ChangeSpec := { name := "crcSees", fn := fun _ => fun
  | [d1, d2, d3] => { results := [.lit (.bool false)], args := [d1, d2, d3] }
  | _ => none }
def CrcSeesWrongFalsely : Prop := crcSeesRow.holds Try.pinned (OpenSpec.ofChange crcSeesWrong)

/-- 'treeringlaw1.CrcKnown': WHATEVER THE INPUT: true; the input reads as it did. -/
def crcKnownSpec : ChangeSpec := { name := "crcKnown", fn := fun _ => fun
  | [] => { results := [.lit (.bool true)], args := [] }
  | _ => none }
def crcKnownRow : OpenClaim := { program := "ytlhlgjjgnlobjaa", sum := "80881280093effdabfaeb130d8a4559ff3d94c93a7e4a2f9b6d21e153c7a434f", func := "treering/treeringlaw1.CrcKnown", spec := "crcKnown", apart := false }
def CrcKnownSaid : Prop := crcKnownRow.holds Try.pinned (OpenSpec.ofChange crcKnownSpec)

/-- ITS FALSE NEIGHBOUR: 'it returns false'. Refute it at one input. -/
def crcKnownWrong : ChangeSpec := { name := "crcKnown", fn := fun _ => fun
  | [] => { results := [.lit (.bool false)], args := [] }
  | _ => none }
def CrcKnownWrongFalsely : Prop := crcKnownRow.holds Try.pinned (OpenSpec.ofChange crcKnownWrong)

/-- 'treeringlaw1.CrcApart': WHATEVER THE INPUT: true; the input reads as it did. -/
def crcApartSpec : ChangeSpec := { name := "crcApart", fn := fun _ => fun
  | [d1, d2, d3] => { results := [.lit (.bool true)], args := [d1, d2, d3] }
  | _ => none }
def crcApartRow : OpenClaim := { program := "ytlhlgjjgnlobjaa", sum := "80881280093effdabfaeb130d8a4559ff3d94c93a7e4a2f9b6d21e153c7a434f", func := "treering/treeringlaw1.CrcApart", spec := "crcApart", apart := false }
def CrcApartSaid : Prop := crcApartRow.holds Try.pinned (OpenSpec.ofChange crcApartSpec)

/-- ITS FALSE NEIGHBOUR: 'it returns false'. Refute it at one input. -/
def crcApartWrong : ChangeSpec := { name := "crcApart", fn := fun _ => fun
  | [d1, d2, d3] => { results := [.lit (.bool false)], args := [d1, d2, d3] }
  | _ => none }
def CrcApartWrongFalsely : Prop := crcApartRow.holds Try.pinned (OpenSpec.ofChange crcApartWrong)

/-- 'treeringlaw1.CrcLines': WHATEVER THE INPUT: true; the input reads as it did. -/
def crcLinesSpec : ChangeSpec := { name := "crcLines", fn := fun _ => fun
  | [d1, d2, d3] => { results := [.lit (.bool true)], args := [d1, d2, d3] }
  | _ => none }
def crcLinesRow : OpenClaim := { program := "ytlhlgjjgnlobjaa", sum := "80881280093effdabfaeb130d8a4559ff3d94c93a7e4a2f9b6d21e153c7a434f", func := "treering/treeringlaw1.CrcLines", spec := "crcLines", apart := false }
def CrcLinesSaid : Prop := crcLinesRow.holds Try.pinned (OpenSpec.ofChange crcLinesSpec)

/-- ITS FALSE NEIGHBOUR: 'it returns false'. Refute it at one input. -/
def crcLinesWrong : ChangeSpec := { name := "crcLines", fn := fun _ => fun
  | [d1, d2, d3] => { results := [.lit (.bool false)], args := [d1, d2, d3] }
  | _ => none }
def CrcLinesWrongFalsely : Prop := crcLinesRow.holds Try.pinned (OpenSpec.ofChange crcLinesWrong)

/-- 'treeringlaw7.FrameTurns': WHATEVER THE INPUT: true; the input reads as it did. -/
def frameTurnsSpec : ChangeSpec := { name := "frameTurns", fn := fun _ => fun
  | [d1, d2, d3] => { results := [.lit (.bool true)], args := [d1, d2, d3] }
  | _ => none }
def frameTurnsRow : OpenClaim := { program := "ytlhlgjjgnlobjaa", sum := "80881280093effdabfaeb130d8a4559ff3d94c93a7e4a2f9b6d21e153c7a434f", func := "treering/treeringlaw7.FrameTurns", spec := "frameTurns", apart := false }
def FrameTurnsSaid : Prop := frameTurnsRow.holds Try.pinned (OpenSpec.ofChange frameTurnsSpec)

/-- ITS FALSE NEIGHBOUR: 'it returns false'. Refute it at one input. -/
def frameTurnsWrong : ChangeSpec := { name := "frameTurns", fn := fun _ => fun
  | [d1, d2, d3] => { results := [.lit (.bool false)], args := [d1, d2, d3] }
  | _ => none }
def FrameTurnsWrongFalsely : Prop := frameTurnsRow.holds Try.pinned (OpenSpec.ofChange frameTurnsWrong)

/-- 'treeringlaw7.FrameReads': WHATEVER THE INPUT: true; the input reads as it did. -/
def frameReadsSpec : ChangeSpec := { name := "frameReads", fn := fun _ => fun
  | [d1, d2] => { results := [.lit (.bool true)], args := [d1, d2] }
  | _ => none }
def frameReadsRow : OpenClaim := { program := "ytlhlgjjgnlobjaa", sum := "80881280093effdabfaeb130d8a4559ff3d94c93a7e4a2f9b6d21e153c7a434f", func := "treering/treeringlaw7.FrameReads", spec := "frameReads", apart := false }
def FrameReadsSaid : Prop := frameReadsRow.holds Try.pinned (OpenSpec.ofChange frameReadsSpec)

/-- ITS FALSE NEIGHBOUR: 'it returns false'. Refute it at one input. -/
def frameReadsWrong : ChangeSpec := { name := "frameReads", fn := fun _ => fun
  | [d1, d2] => { results := [.lit (.bool false)], args := [d1, d2] }
  | _ => none }
def FrameReadsWrongFalsely : Prop := frameReadsRow.holds Try.pinned (OpenSpec.ofChange frameReadsWrong)

/-- 'treeringlaw7.FrameSees': WHATEVER THE INPUT: true; the input reads as it did. -/
def frameSeesSpec : ChangeSpec := { name := "frameSees", fn := fun _ => fun
  | [d1, d2, d3] => { results := [.lit (.bool true)], args := [d1, d2, d3] }
  | _ => none }
def frameSeesRow : OpenClaim := { program := "ytlhlgjjgnlobjaa", sum := "80881280093effdabfaeb130d8a4559ff3d94c93a7e4a2f9b6d21e153c7a434f", func := "treering/treeringlaw7.FrameSees", spec := "frameSees", apart := false }
def FrameSeesSaid : Prop := frameSeesRow.holds Try.pinned (OpenSpec.ofChange frameSeesSpec)

/-- ITS FALSE NEIGHBOUR: 'it returns false'. Refute it at one input. -/
def frameSeesWrong : ChangeSpec := { name := "frameSees", fn := fun _ => fun
  | [d1, d2, d3] => { results := [.lit (.bool false)], args := [d1, d2, d3] }
  | _ => none }
def FrameSeesWrongFalsely : Prop := frameSeesRow.holds Try.pinned (OpenSpec.ofChange frameSeesWrong)

/-- 'treeringlaw7.FrameRows': WHATEVER THE INPUT: true; the input reads as it did. -/
def frameRowsSpec : ChangeSpec := { name := "frameRows", fn := fun _ => fun
  | [d1, d2] => { results := [.lit (.bool true)], args := [d1, d2] }
  | _ => none }
def frameRowsRow : OpenClaim := { program := "ytlhlgjjgnlobjaa", sum := "80881280093effdabfaeb130d8a4559ff3d94c93a7e4a2f9b6d21e153c7a434f", func := "treering/treeringlaw7.FrameRows", spec := "frameRows", apart := false }
def FrameRowsSaid : Prop := frameRowsRow.holds Try.pinned (OpenSpec.ofChange frameRowsSpec)

/-- ITS FALSE NEIGHBOUR: 'it returns false'. Refute it at one input. -/
def frameRowsWrong : ChangeSpec := { name := "frameRows", fn := fun _ => fun
  | [d1, d2] => { results := [.lit (.bool false)], args := [d1, d2] }
  | _ => none }
def FrameRowsWrongFalsely : Prop := frameRowsRow.holds Try.pinned (OpenSpec.ofChange frameRowsWrong)

/-- 'treeringlaw7.FrameKnown': WHATEVER THE INPUT: true; the input reads as it did. -/
def frameKnownSpec : ChangeSpec := { name := "frameKnown", fn := fun _ => fun
  | [] => { results := [.lit (.bool true)], args := [] }
  | _ => none }
def frameKnownRow : OpenClaim := { program := "ytlhlgjjgnlobjaa", sum := "80881280093effdabfaeb130d8a4559ff3d94c93a7e4a2f9b6d21e153c7a434f", func := "treering/treeringlaw7.FrameKnown", spec := "frameKnown", apart := false }
def FrameKnownSaid : Prop := frameKnownRow.holds Try.pinned (OpenSpec.ofChange frameKnownSpec)

/-- ITS FALSE NEIGHBOUR: 'it returns false'. Refute it at one input. -/
def frameKnownWrong : ChangeSpec := { name := "frameKnown", fn := fun _ => fun
  | [] => { results := [.lit (.bool false)], args := [] }
  | _ => none }
def FrameKnownWrongFalsely : Prop := frameKnownRow.holds Try.pinned (OpenSpec.ofChange frameKnownWrong)

/-- 'treeringlaw7.FrameLast': WHATEVER THE INPUT: true; the input reads as it did. -/
def frameLastSpec : ChangeSpec := { name := "frameLast", fn := fun _ => fun
  | [d1, d2, d3] => { results := [.lit (.bool true)], args := [d1, d2, d3] }
  | _ => none }
def frameLastRow : OpenClaim := { program := "ytlhlgjjgnlobjaa", sum := "80881280093effdabfaeb130d8a4559ff3d94c93a7e4a2f9b6d21e153c7a434f", func := "treering/treeringlaw7.FrameLast", spec := "frameLast", apart := false }
def FrameLastSaid : Prop := frameLastRow.holds Try.pinned (OpenSpec.ofChange frameLastSpec)

/-- ITS FALSE NEIGHBOUR: 'it returns false'. Refute it at one input. -/
def frameLastWrong : ChangeSpec := { name := "frameLast", fn := fun _ => fun
  | [d1, d2, d3] => { results := [.lit (.bool false)], args := [d1, d2, d3] }
  | _ => none }
def FrameLastWrongFalsely : Prop := frameLastRow.holds Try.pinned (OpenSpec.ofChange frameLastWrong)

/-- 'treeringlaw7.FrameCuts': WHATEVER THE INPUT: true; the input reads as it did. -/
def frameCutsSpec : ChangeSpec := { name := "frameCuts", fn := fun _ => fun
  | [d1, d2, d3] => { results := [.lit (.bool true)], args := [d1, d2, d3] }
  | _ => none }
def frameCutsRow : OpenClaim := { program := "ytlhlgjjgnlobjaa", sum := "80881280093effdabfaeb130d8a4559ff3d94c93a7e4a2f9b6d21e153c7a434f", func := "treering/treeringlaw7.FrameCuts", spec := "frameCuts", apart := false }
def FrameCutsSaid : Prop := frameCutsRow.holds Try.pinned (OpenSpec.ofChange frameCutsSpec)

/-- ITS FALSE NEIGHBOUR: 'it returns false'. Refute it at one input. -/
def frameCutsWrong : ChangeSpec := { name := "frameCuts", fn := fun _ => fun
  | [d1, d2, d3] => { results := [.lit (.bool false)], args := [d1, d2, d3] }
  | _ => none }
def FrameCutsWrongFalsely : Prop := frameCutsRow.holds Try.pinned (OpenSpec.ofChange frameCutsWrong)

/- THE SECOND FORM. 'bulk': how many values and letters a reading holds, each counted each time it is reached (what is shared counts as often as it is met; a slice's spare places count too). A statement '..UptoSaid' is the law's where the arguments, and the package variables that the reading takes, are together of bulk at most 1048576: NARROWER than '..Said'. Prove '..Said' where nothing that the law and all that it calls make is longer than what came in: it says more and counts as full. Else prove '..UptoSaid'. A law counts once. -/
mutual
def uptoBulk {H : Type} : DataW H → Nat
  | .lit (.string bytes) => bytes.length + 1
  | .lit _ => 1
  | .nil => 1
  | .ptr d => uptoBulk d + 1
  | .slice elems spare => uptoBulkAll elems + uptoBulkAll spare + 1
  | .agg parts => uptoBulkAll parts + 1
  | .iface _ d => uptoBulk d + 1
  | .map entries => uptoBulkEntries entries + 1
  | .held _ => 1
def uptoBulkAll {H : Type} : List (DataW H) → Nat
  | [] => 0
  | d :: r => uptoBulk d + uptoBulkAll r
def uptoBulkEntries {H : Type} : List (Lit × DataW H) → Nat
  | [] => 0
  | x :: r => uptoBulkEntry x + uptoBulkEntries r
def uptoBulkEntry {H : Type} : Lit × DataW H → Nat
  | (.string bytes, d) => bytes.length + uptoBulk d + 1
  | (_, d) => uptoBulk d + 1
 end
def uptoSmall : (H : Type) → List (DataW H) → Bool := fun _ ds => decide (uptoBulkAll ds ≤ 1048576)
def OpenSpec.upto (s : _root_.Go.ChangeSpec) : _root_.Go.OpenSpec := { _root_.Go.OpenSpec.ofChange s with cond := some uptoSmall }

/-- 'treeringlaw1.CrcSums', WHERE WHAT IT READS IS OF BULK AT MOST 1048576: true; the input reads as it did. -/
def crcSumsUptoRow : OpenClaim := { program := "ytlhlgjjgnlobjaa", sum := "80881280093effdabfaeb130d8a4559ff3d94c93a7e4a2f9b6d21e153c7a434f", func := "treering/treeringlaw1.CrcSums", spec := "crcSums", apart := false, narrowed := true }
def CrcSumsUptoSaid : Prop := crcSumsUptoRow.holds Try.pinned (OpenSpec.upto crcSumsSpec)

/-- 'treeringlaw1.CrcSees', WHERE WHAT IT READS IS OF BULK AT MOST 1048576: true; the input reads as it did. -/
def crcSeesUptoRow : OpenClaim := { program := "ytlhlgjjgnlobjaa", sum := "80881280093effdabfaeb130d8a4559ff3d94c93a7e4a2f9b6d21e153c7a434f", func := "treering/treeringlaw1.CrcSees", spec := "crcSees", apart := false, narrowed := true }
def CrcSeesUptoSaid : Prop := crcSeesUptoRow.holds Try.pinned (OpenSpec.upto crcSeesSpec)

/-- 'treeringlaw1.CrcKnown', WHERE WHAT IT READS IS OF BULK AT MOST 1048576: true; the input reads as it did. -/
def crcKnownUptoRow : OpenClaim := { program := "ytlhlgjjgnlobjaa", sum := "80881280093effdabfaeb130d8a4559ff3d94c93a7e4a2f9b6d21e153c7a434f", func := "treering/treeringlaw1.CrcKnown", spec := "crcKnown", apart := false, narrowed := true }
def CrcKnownUptoSaid : Prop := crcKnownUptoRow.holds Try.pinned (OpenSpec.upto crcKnownSpec)

/-- 'treeringlaw1.CrcApart', WHERE WHAT IT READS IS OF BULK AT MOST 1048576: true; the input reads as it did. -/
def crcApartUptoRow : OpenClaim := { program := "ytlhlgjjgnlobjaa", sum := "80881280093effdabfaeb130d8a4559ff3d94c93a7e4a2f9b6d21e153c7a434f", func := "treering/treeringlaw1.CrcApart", spec := "crcApart", apart := false, narrowed := true }
def CrcApartUptoSaid : Prop := crcApartUptoRow.holds Try.pinned (OpenSpec.upto crcApartSpec)

/-- 'treeringlaw1.CrcLines', WHERE WHAT IT READS IS OF BULK AT MOST 1048576: true; the input reads as it did. -/
def crcLinesUptoRow : OpenClaim := { program := "ytlhlgjjgnlobjaa", sum := "80881280093effdabfaeb130d8a4559ff3d94c93a7e4a2f9b6d21e153c7a434f", func := "treering/treeringlaw1.CrcLines", spec := "crcLines", apart := false, narrowed := true }
def CrcLinesUptoSaid : Prop := crcLinesUptoRow.holds Try.pinned (OpenSpec.upto crcLinesSpec)

/-- 'treeringlaw7.FrameTurns', WHERE WHAT IT READS IS OF BULK AT MOST 1048576: true; the input reads as it did. -/
def frameTurnsUptoRow : OpenClaim := { program := "ytlhlgjjgnlobjaa", sum := "80881280093effdabfaeb130d8a4559ff3d94c93a7e4a2f9b6d21e153c7a434f", func := "treering/treeringlaw7.FrameTurns", spec := "frameTurns", apart := false, narrowed := true }
def FrameTurnsUptoSaid : Prop := frameTurnsUptoRow.holds Try.pinned (OpenSpec.upto frameTurnsSpec)

/-- 'treeringlaw7.FrameReads', WHERE WHAT IT READS IS OF BULK AT MOST 1048576: true; the input reads as it did. -/
def frameReadsUptoRow : OpenClaim := { program := "ytlhlgjjgnlobjaa", sum := "80881280093effdabfaeb130d8a4559ff3d94c93a7e4a2f9b6d21e153c7a434f", func := "treering/treeringlaw7.FrameReads", spec := "frameReads", apart := false, narrowed := true }
def FrameReadsUptoSaid : Prop := frameReadsUptoRow.holds Try.pinned (OpenSpec.upto frameReadsSpec)

/-- 'treeringlaw7.FrameSees', WHERE WHAT IT READS IS OF BULK AT MOST 1048576: true; the input reads as it did. -/
def frameSeesUptoRow : OpenClaim := { program := "ytlhlgjjgnlobjaa", sum := "80881280093effdabfaeb130d8a4559ff3d94c93a7e4a2f9b6d21e153c7a434f", func := "treering/treeringlaw7.FrameSees", spec := "frameSees", apart := false, narrowed := true }
def FrameSeesUptoSaid : Prop := frameSeesUptoRow.holds Try.pinned (OpenSpec.upto frameSeesSpec)

/-- 'treeringlaw7.FrameRows', WHERE WHAT IT READS IS OF BULK AT MOST 1048576: true; the input reads as it did. -/
def frameRowsUptoRow : OpenClaim := { program := "ytlhlgjjgnlobjaa", sum := "80881280093effdabfaeb130d8a4559ff3d94c93a7e4a2f9b6d21e153c7a434f", func := "treering/treeringlaw7.FrameRows", spec := "frameRows", apart := false, narrowed := true }
def FrameRowsUptoSaid : Prop := frameRowsUptoRow.holds Try.pinned (OpenSpec.upto frameRowsSpec)

/-- 'treeringlaw7.FrameKnown', WHERE WHAT IT READS IS OF BULK AT MOST 1048576: true; the input reads as it did. -/
def frameKnownUptoRow : OpenClaim := { program := "ytlhlgjjgnlobjaa", sum := "80881280093effdabfaeb130d8a4559ff3d94c93a7e4a2f9b6d21e153c7a434f", func := "treering/treeringlaw7.FrameKnown", spec := "frameKnown", apart := false, narrowed := true }
def FrameKnownUptoSaid : Prop := frameKnownUptoRow.holds Try.pinned (OpenSpec.upto frameKnownSpec)

/-- 'treeringlaw7.FrameLast', WHERE WHAT IT READS IS OF BULK AT MOST 1048576: true; the input reads as it did. -/
def frameLastUptoRow : OpenClaim := { program := "ytlhlgjjgnlobjaa", sum := "80881280093effdabfaeb130d8a4559ff3d94c93a7e4a2f9b6d21e153c7a434f", func := "treering/treeringlaw7.FrameLast", spec := "frameLast", apart := false, narrowed := true }
def FrameLastUptoSaid : Prop := frameLastUptoRow.holds Try.pinned (OpenSpec.upto frameLastSpec)

/-- 'treeringlaw7.FrameCuts', WHERE WHAT IT READS IS OF BULK AT MOST 1048576: true; the input reads as it did. -/
def frameCutsUptoRow : OpenClaim := { program := "ytlhlgjjgnlobjaa", sum := "80881280093effdabfaeb130d8a4559ff3d94c93a7e4a2f9b6d21e153c7a434f", func := "treering/treeringlaw7.FrameCuts", spec := "frameCuts", apart := false, narrowed := true }
def FrameCutsUptoSaid : Prop := frameCutsUptoRow.holds Try.pinned (OpenSpec.upto frameCutsSpec)

end Rows
end Go.Proofs.Ytlhlgjjgnlobjaa
