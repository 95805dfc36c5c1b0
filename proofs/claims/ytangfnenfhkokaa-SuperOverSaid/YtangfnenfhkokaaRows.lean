/-
  No cell of these rows narrows 'for every input' (looked for: loops, veiled, ifaces, maps, wideKeys, modest, calm, conditions, laid).
  DERIVED. THE GIVEN ROWS OF THIS SEAT. 10 by the template 'for every input the law returns true; each argument reads behind the call as it read before'; 0 by the template 'total and deterministic' (their statements: YtangfnenfhkokaaTotals.lean).
  GIVEN WITH THE SEED: the statements are not yours to turn. If you find one false, say at which input.
  Laid BY PROGRAM, IN A SANDBOX (cutbox-rows.mjs): the forced cells as the released guide's own fill.sh prints them over the translation dcbedb11449a25a5… (all of the seat's roots in one cut). By AI agents, Wed Nov 11 2026. No macro, syntax, notation, axiom, sorry.
-/
import Derived.Test.YtangfnenfhkokaaChecked
import GoSem.Claim
import GoSem.ClaimJoined
import GoSem.ClaimMapViews
import Derived.JoinedTies
import Derived.KernelRfl
namespace Go.Proofs.Ytangfnenfhkokaa
/- THE CELL 'sum', in the pinned program and in every row, IS THE sha256 OF THE DUMP (.gsa) THAT YtangfnenfhkokaaProg.lean LOADS. Nothing in Lean hashes anything: it is a label: what it is worth is what the hold of that sum in a sandbox is worth. -/
noncomputable def Try.pinned : Pinned := { name := "ytangfnenfhkokaa", sum := "dcbedb11449a25a555ad583e0f9058a354f2a2b6fb5d73a498cca6115c09cb21", checked := Try.checked }
namespace Rows
def none {H : Type} : Left H := { results := [], args := [] }

/-- 'treeringlaw8.LogTurns': WHATEVER THE INPUT: true; the input reads as it did. -/
def logTurnsSpec : ChangeSpec := { name := "logTurns", fn := fun _ => fun
  | [d1, d2] => { results := [.lit (.bool true)], args := [d1, d2] }
  | _ => none }
def logTurnsRow : OpenClaim := { program := "ytangfnenfhkokaa", sum := "dcbedb11449a25a555ad583e0f9058a354f2a2b6fb5d73a498cca6115c09cb21", func := "treering/treeringlaw8.LogTurns", spec := "logTurns", inPlace := ["internal/bytealg.Count", "internal/bytealg.IndexByte", "internal/bytealg.Index"], unfollowed := true, recurses := true, named := ["internal/bytealg.MaxLen"], apart := false }
def LogTurnsSaid : Prop := logTurnsRow.holds Try.pinned (OpenSpec.ofChange logTurnsSpec)

/-- ITS FALSE NEIGHBOUR: 'it returns false'. Refute it at one input. -/
def logTurnsWrong : ChangeSpec := { name := "logTurns", fn := fun _ => fun
  | [d1, d2] => { results := [.lit (.bool false)], args := [d1, d2] }
  | _ => none }
def LogTurnsWrongFalsely : Prop := logTurnsRow.holds Try.pinned (OpenSpec.ofChange logTurnsWrong)

/-- 'treeringlaw8.LogKnown': WHATEVER THE INPUT: true; the input reads as it did. -/
def logKnownSpec : ChangeSpec := { name := "logKnown", fn := fun _ => fun
  | [] => { results := [.lit (.bool true)], args := [] }
  | _ => none }
def logKnownRow : OpenClaim := { program := "ytangfnenfhkokaa", sum := "dcbedb11449a25a555ad583e0f9058a354f2a2b6fb5d73a498cca6115c09cb21", func := "treering/treeringlaw8.LogKnown", spec := "logKnown", inPlace := ["internal/bytealg.Count", "internal/bytealg.IndexByte", "internal/bytealg.Index"], unfollowed := true, recurses := true, named := ["internal/bytealg.MaxLen"], apart := false }
def LogKnownSaid : Prop := logKnownRow.holds Try.pinned (OpenSpec.ofChange logKnownSpec)

/-- ITS FALSE NEIGHBOUR: 'it returns false'. Refute it at one input. -/
def logKnownWrong : ChangeSpec := { name := "logKnown", fn := fun _ => fun
  | [] => { results := [.lit (.bool false)], args := [] }
  | _ => none }
def LogKnownWrongFalsely : Prop := logKnownRow.holds Try.pinned (OpenSpec.ofChange logKnownWrong)

/-- 'treeringlaw8.LogSees': WHATEVER THE INPUT: true; the input reads as it did. -/
def logSeesSpec : ChangeSpec := { name := "logSees", fn := fun _ => fun
  | [d1, d2, d3] => { results := [.lit (.bool true)], args := [d1, d2, d3] }
  | _ => none }
def logSeesRow : OpenClaim := { program := "ytangfnenfhkokaa", sum := "dcbedb11449a25a555ad583e0f9058a354f2a2b6fb5d73a498cca6115c09cb21", func := "treering/treeringlaw8.LogSees", spec := "logSees", inPlace := ["internal/bytealg.Count", "internal/bytealg.IndexByte", "internal/bytealg.Index"], unfollowed := true, recurses := true, named := ["internal/bytealg.MaxLen"], apart := false }
def LogSeesSaid : Prop := logSeesRow.holds Try.pinned (OpenSpec.ofChange logSeesSpec)

/-- ITS FALSE NEIGHBOUR: 'it returns false'. Refute it at one input. -/
def logSeesWrong : ChangeSpec := { name := "logSees", fn := fun _ => fun
  | [d1, d2, d3] => { results := [.lit (.bool false)], args := [d1, d2, d3] }
  | _ => none }
def LogSeesWrongFalsely : Prop := logSeesRow.holds Try.pinned (OpenSpec.ofChange logSeesWrong)

/-- 'treeringlaw8.LogBoth': WHATEVER THE INPUT: true; the input reads as it did. -/
def logBothSpec : ChangeSpec := { name := "logBoth", fn := fun _ => fun
  | [d1, d2] => { results := [.lit (.bool true)], args := [d1, d2] }
  | _ => none }
def logBothRow : OpenClaim := { program := "ytangfnenfhkokaa", sum := "dcbedb11449a25a555ad583e0f9058a354f2a2b6fb5d73a498cca6115c09cb21", func := "treering/treeringlaw8.LogBoth", spec := "logBoth", inPlace := ["internal/bytealg.Count", "internal/bytealg.IndexByte", "internal/bytealg.Index"], unfollowed := true, recurses := true, named := ["internal/bytealg.MaxLen"], apart := false }
def LogBothSaid : Prop := logBothRow.holds Try.pinned (OpenSpec.ofChange logBothSpec)

/-- ITS FALSE NEIGHBOUR: 'it returns false'. Refute it at one input. -/
def logBothWrong : ChangeSpec := { name := "logBoth", fn := fun _ => fun
  | [d1, d2] => { results := [.lit (.bool false)], args := [d1, d2] }
  | _ => none }
def LogBothWrongFalsely : Prop := logBothRow.holds Try.pinned (OpenSpec.ofChange logBothWrong)

/-- 'treeringlaw8.LogMore': WHATEVER THE INPUT: true; the input reads as it did. -/
def logMoreSpec : ChangeSpec := { name := "logMore", fn := fun _ => fun
  | [d1, d2, d3] => { results := [.lit (.bool true)], args := [d1, d2, d3] }
  | _ => none }
def logMoreRow : OpenClaim := { program := "ytangfnenfhkokaa", sum := "dcbedb11449a25a555ad583e0f9058a354f2a2b6fb5d73a498cca6115c09cb21", func := "treering/treeringlaw8.LogMore", spec := "logMore", inPlace := ["internal/bytealg.Count", "internal/bytealg.IndexByte", "internal/bytealg.Index"], unfollowed := true, recurses := true, named := ["internal/bytealg.MaxLen"], apart := false }
def LogMoreSaid : Prop := logMoreRow.holds Try.pinned (OpenSpec.ofChange logMoreSpec)

/-- ITS FALSE NEIGHBOUR: 'it returns false'. Refute it at one input. -/
def logMoreWrong : ChangeSpec := { name := "logMore", fn := fun _ => fun
  | [d1, d2, d3] => { results := [.lit (.bool false)], args := [d1, d2, d3] }
  | _ => none }
def LogMoreWrongFalsely : Prop := logMoreRow.holds Try.pinned (OpenSpec.ofChange logMoreWrong)

/-- 'treeringlaw8.LogPlays': WHATEVER THE INPUT: true; the input reads as it did. -/
def logPlaysSpec : ChangeSpec := { name := "logPlays", fn := fun _ => fun
  | [d1, d2, d3] => { results := [.lit (.bool true)], args := [d1, d2, d3] }
  | _ => none }
def logPlaysRow : OpenClaim := { program := "ytangfnenfhkokaa", sum := "dcbedb11449a25a555ad583e0f9058a354f2a2b6fb5d73a498cca6115c09cb21", func := "treering/treeringlaw8.LogPlays", spec := "logPlays", inPlace := ["internal/bytealg.Count", "internal/bytealg.IndexByte", "internal/bytealg.Index"], unfollowed := true, recurses := true, named := ["internal/bytealg.MaxLen"], apart := false }
def LogPlaysSaid : Prop := logPlaysRow.holds Try.pinned (OpenSpec.ofChange logPlaysSpec)

/-- ITS FALSE NEIGHBOUR: 'it returns false'. Refute it at one input. -/
def logPlaysWrong : ChangeSpec := { name := "logPlays", fn := fun _ => fun
  | [d1, d2, d3] => { results := [.lit (.bool false)], args := [d1, d2, d3] }
  | _ => none }
def LogPlaysWrongFalsely : Prop := logPlaysRow.holds Try.pinned (OpenSpec.ofChange logPlaysWrong)

/-- 'treeringlaw5.SuperTorn': WHATEVER THE INPUT: true; the input reads as it did. -/
def superTornSpec : ChangeSpec := { name := "superTorn", fn := fun _ => fun
  | [d1, d2, d3] => { results := [.lit (.bool true)], args := [d1, d2, d3] }
  | _ => none }
def superTornRow : OpenClaim := { program := "ytangfnenfhkokaa", sum := "dcbedb11449a25a555ad583e0f9058a354f2a2b6fb5d73a498cca6115c09cb21", func := "treering/treeringlaw5.SuperTorn", spec := "superTorn", unfollowed := true, recurses := true, apart := false }
def SuperTornSaid : Prop := superTornRow.holds Try.pinned (OpenSpec.ofChange superTornSpec)

/-- ITS FALSE NEIGHBOUR: 'it returns false'. Refute it at one input. -/
def superTornWrong : ChangeSpec := { name := "superTorn", fn := fun _ => fun
  | [d1, d2, d3] => { results := [.lit (.bool false)], args := [d1, d2, d3] }
  | _ => none }
def SuperTornWrongFalsely : Prop := superTornRow.holds Try.pinned (OpenSpec.ofChange superTornWrong)

/-- 'treeringlaw5.SuperOver': WHATEVER THE INPUT: true; the input reads as it did. -/
def superOverSpec : ChangeSpec := { name := "superOver", fn := fun _ => fun
  | [d1, d2, d3] => { results := [.lit (.bool true)], args := [d1, d2, d3] }
  | _ => none }
def superOverRow : OpenClaim := { program := "ytangfnenfhkokaa", sum := "dcbedb11449a25a555ad583e0f9058a354f2a2b6fb5d73a498cca6115c09cb21", func := "treering/treeringlaw5.SuperOver", spec := "superOver", unfollowed := true, recurses := true, apart := false }
def SuperOverSaid : Prop := superOverRow.holds Try.pinned (OpenSpec.ofChange superOverSpec)

/-- ITS FALSE NEIGHBOUR: 'it returns false'. Refute it at one input. -/
def superOverWrong : ChangeSpec := { name := "superOver", fn := fun _ => fun
  | [d1, d2, d3] => { results := [.lit (.bool false)], args := [d1, d2, d3] }
  | _ => none }
def SuperOverWrongFalsely : Prop := superOverRow.holds Try.pinned (OpenSpec.ofChange superOverWrong)

/-- 'treeringlaw8.LogTorn': WHATEVER THE INPUT: true; the input reads as it did. -/
def logTornSpec : ChangeSpec := { name := "logTorn", fn := fun _ => fun
  | [d1, d2, d3] => { results := [.lit (.bool true)], args := [d1, d2, d3] }
  | _ => none }
def logTornRow : OpenClaim := { program := "ytangfnenfhkokaa", sum := "dcbedb11449a25a555ad583e0f9058a354f2a2b6fb5d73a498cca6115c09cb21", func := "treering/treeringlaw8.LogTorn", spec := "logTorn", inPlace := ["internal/bytealg.Count", "internal/bytealg.IndexByte", "internal/bytealg.Index"], unfollowed := true, recurses := true, named := ["internal/bytealg.MaxLen"], apart := false }
def LogTornSaid : Prop := logTornRow.holds Try.pinned (OpenSpec.ofChange logTornSpec)

/-- ITS FALSE NEIGHBOUR: 'it returns false'. Refute it at one input. -/
def logTornWrong : ChangeSpec := { name := "logTorn", fn := fun _ => fun
  | [d1, d2, d3] => { results := [.lit (.bool false)], args := [d1, d2, d3] }
  | _ => none }
def LogTornWrongFalsely : Prop := logTornRow.holds Try.pinned (OpenSpec.ofChange logTornWrong)

/-- 'treeringlaw8.LogOver': WHATEVER THE INPUT: true; the input reads as it did. -/
def logOverSpec : ChangeSpec := { name := "logOver", fn := fun _ => fun
  | [d1, d2, d3] => { results := [.lit (.bool true)], args := [d1, d2, d3] }
  | _ => none }
def logOverRow : OpenClaim := { program := "ytangfnenfhkokaa", sum := "dcbedb11449a25a555ad583e0f9058a354f2a2b6fb5d73a498cca6115c09cb21", func := "treering/treeringlaw8.LogOver", spec := "logOver", inPlace := ["internal/bytealg.Count", "internal/bytealg.IndexByte", "internal/bytealg.Index"], unfollowed := true, recurses := true, named := ["internal/bytealg.MaxLen"], apart := false }
def LogOverSaid : Prop := logOverRow.holds Try.pinned (OpenSpec.ofChange logOverSpec)

/-- ITS FALSE NEIGHBOUR: 'it returns false'. Refute it at one input. -/
def logOverWrong : ChangeSpec := { name := "logOver", fn := fun _ => fun
  | [d1, d2, d3] => { results := [.lit (.bool false)], args := [d1, d2, d3] }
  | _ => none }
def LogOverWrongFalsely : Prop := logOverRow.holds Try.pinned (OpenSpec.ofChange logOverWrong)

/- THE SECOND FORM. 'bulk': how many values and letters a reading holds, each counted each time it is reached (what is shared counts as often as it is met; a slice's spare places count too). A statement '..UptoSaid' is the law's where the arguments, and the package variables that the reading takes, are together of bulk at most 1048576: NARROWER than '..Said'. Prove '..Said' where nothing that the law and all that it calls make is longer than what came in: it says more and counts as full. Else prove '..UptoSaid'. A law counts once. -/
mutual
def uptoBulk {H : Type} : DataW H → Nat
  | .lit (.string bytes) => bytes.length + 1
  | .lit _ => 1
  | .nil => 1
  | .ptr d => uptoBulk d + 1
  | .slice elems spare => uptoBulkAll elems + uptoBulkAll spare + 1
  | .agg parts => uptoBulkAll parts + 1
  | .iface _ d => uptoBulk d + 1
  | .map entries => uptoBulkEntries entries + 1
  | .held _ => 1
def uptoBulkAll {H : Type} : List (DataW H) → Nat
  | [] => 0
  | d :: r => uptoBulk d + uptoBulkAll r
def uptoBulkEntries {H : Type} : List (Lit × DataW H) → Nat
  | [] => 0
  | x :: r => uptoBulkEntry x + uptoBulkEntries r
def uptoBulkEntry {H : Type} : Lit × DataW H → Nat
  | (.string bytes, d) => bytes.length + uptoBulk d + 1
  | (_, d) => uptoBulk d + 1
 end
def uptoSmall : (H : Type) → List (DataW H) → Bool := fun _ ds => decide (uptoBulkAll ds ≤ 1048576)
def OpenSpec.upto (s : _root_.Go.ChangeSpec) : _root_.Go.OpenSpec := { _root_.Go.OpenSpec.ofChange s with cond := some uptoSmall }

/-- 'treeringlaw8.LogTurns', WHERE WHAT IT READS IS OF BULK AT MOST 1048576: true; the input reads as it did. -/
def logTurnsUptoRow : OpenClaim := { program := "ytangfnenfhkokaa", sum := "dcbedb11449a25a555ad583e0f9058a354f2a2b6fb5d73a498cca6115c09cb21", func := "treering/treeringlaw8.LogTurns", spec := "logTurns", inPlace := ["internal/bytealg.Count", "internal/bytealg.IndexByte", "internal/bytealg.Index"], unfollowed := true, recurses := true, named := ["internal/bytealg.MaxLen"], apart := false, narrowed := true }
def LogTurnsUptoSaid : Prop := logTurnsUptoRow.holds Try.pinned (OpenSpec.upto logTurnsSpec)

/-- 'treeringlaw8.LogKnown', WHERE WHAT IT READS IS OF BULK AT MOST 1048576: true; the input reads as it did. -/
def logKnownUptoRow : OpenClaim := { program := "ytangfnenfhkokaa", sum := "dcbedb11449a25a555ad583e0f9058a354f2a2b6fb5d73a498cca6115c09cb21", func := "treering/treeringlaw8.LogKnown", spec := "logKnown", inPlace := ["internal/bytealg.Count", "internal/bytealg.IndexByte", "internal/bytealg.Index"], unfollowed := true, recurses := true, named := ["internal/bytealg.MaxLen"], apart := false, narrowed := true }
def LogKnownUptoSaid : Prop := logKnownUptoRow.holds Try.pinned (OpenSpec.upto logKnownSpec)

/-- 'treeringlaw8.LogSees', WHERE WHAT IT READS IS OF BULK AT MOST 1048576: true; the input reads as it did. -/
def logSeesUptoRow : OpenClaim := { program := "ytangfnenfhkokaa", sum := "dcbedb11449a25a555ad583e0f9058a354f2a2b6fb5d73a498cca6115c09cb21", func := "treering/treeringlaw8.LogSees", spec := "logSees", inPlace := ["internal/bytealg.Count", "internal/bytealg.IndexByte", "internal/bytealg.Index"], unfollowed := true, recurses := true, named := ["internal/bytealg.MaxLen"], apart := false, narrowed := true }
def LogSeesUptoSaid : Prop := logSeesUptoRow.holds Try.pinned (OpenSpec.upto logSeesSpec)

/-- 'treeringlaw8.LogBoth', WHERE WHAT IT READS IS OF BULK AT MOST 1048576: true; the input reads as it did. -/
def logBothUptoRow : OpenClaim := { program := "ytangfnenfhkokaa", sum := "dcbedb11449a25a555ad583e0f9058a354f2a2b6fb5d73a498cca6115c09cb21", func := "treering/treeringlaw8.LogBoth", spec := "logBoth", inPlace := ["internal/bytealg.Count", "internal/bytealg.IndexByte", "internal/bytealg.Index"], unfollowed := true, recurses := true, named := ["internal/bytealg.MaxLen"], apart := false, narrowed := true }
def LogBothUptoSaid : Prop := logBothUptoRow.holds Try.pinned (OpenSpec.upto logBothSpec)

/-- 'treeringlaw8.LogMore', WHERE WHAT IT READS IS OF BULK AT MOST 1048576: true; the input reads as it did. -/
def logMoreUptoRow : OpenClaim := { program := "ytangfnenfhkokaa", sum := "dcbedb11449a25a555ad583e0f9058a354f2a2b6fb5d73a498cca6115c09cb21", func := "treering/treeringlaw8.LogMore", spec := "logMore", inPlace := ["internal/bytealg.Count", "internal/bytealg.IndexByte", "internal/bytealg.Index"], unfollowed := true, recurses := true, named := ["internal/bytealg.MaxLen"], apart := false, narrowed := true }
def LogMoreUptoSaid : Prop := logMoreUptoRow.holds Try.pinned (OpenSpec.upto logMoreSpec)

/-- 'treeringlaw8.LogPlays', WHERE WHAT IT READS IS OF BULK AT MOST 1048576: true; the input reads as it did. -/
def logPlaysUptoRow : OpenClaim := { program := "ytangfnenfhkokaa", sum := "dcbedb11449a25a555ad583e0f9058a354f2a2b6fb5d73a498cca6115c09cb21", func := "treering/treeringlaw8.LogPlays", spec := "logPlays", inPlace := ["internal/bytealg.Count", "internal/bytealg.IndexByte", "internal/bytealg.Index"], unfollowed := true, recurses := true, named := ["internal/bytealg.MaxLen"], apart := false, narrowed := true }
def LogPlaysUptoSaid : Prop := logPlaysUptoRow.holds Try.pinned (OpenSpec.upto logPlaysSpec)

/-- 'treeringlaw5.SuperTorn', WHERE WHAT IT READS IS OF BULK AT MOST 1048576: true; the input reads as it did. -/
def superTornUptoRow : OpenClaim := { program := "ytangfnenfhkokaa", sum := "dcbedb11449a25a555ad583e0f9058a354f2a2b6fb5d73a498cca6115c09cb21", func := "treering/treeringlaw5.SuperTorn", spec := "superTorn", unfollowed := true, recurses := true, apart := false, narrowed := true }
def SuperTornUptoSaid : Prop := superTornUptoRow.holds Try.pinned (OpenSpec.upto superTornSpec)

/-- 'treeringlaw5.SuperOver', WHERE WHAT IT READS IS OF BULK AT MOST 1048576: true; the input reads as it did. -/
def superOverUptoRow : OpenClaim := { program := "ytangfnenfhkokaa", sum := "dcbedb11449a25a555ad583e0f9058a354f2a2b6fb5d73a498cca6115c09cb21", func := "treering/treeringlaw5.SuperOver", spec := "superOver", unfollowed := true, recurses := true, apart := false, narrowed := true }
def SuperOverUptoSaid : Prop := superOverUptoRow.holds Try.pinned (OpenSpec.upto superOverSpec)

/-- 'treeringlaw8.LogTorn', WHERE WHAT IT READS IS OF BULK AT MOST 1048576: true; the input reads as it did. -/
def logTornUptoRow : OpenClaim := { program := "ytangfnenfhkokaa", sum := "dcbedb11449a25a555ad583e0f9058a354f2a2b6fb5d73a498cca6115c09cb21", func := "treering/treeringlaw8.LogTorn", spec := "logTorn", inPlace := ["internal/bytealg.Count", "internal/bytealg.IndexByte", "internal/bytealg.Index"], unfollowed := true, recurses := true, named := ["internal/bytealg.MaxLen"], apart := false, narrowed := true }
def LogTornUptoSaid : Prop := logTornUptoRow.holds Try.pinned (OpenSpec.upto logTornSpec)

/-- 'treeringlaw8.LogOver', WHERE WHAT IT READS IS OF BULK AT MOST 1048576: true; the input reads as it did. -/
def logOverUptoRow : OpenClaim := { program := "ytangfnenfhkokaa", sum := "dcbedb11449a25a555ad583e0f9058a354f2a2b6fb5d73a498cca6115c09cb21", func := "treering/treeringlaw8.LogOver", spec := "logOver", inPlace := ["internal/bytealg.Count", "internal/bytealg.IndexByte", "internal/bytealg.Index"], unfollowed := true, recurses := true, named := ["internal/bytealg.MaxLen"], apart := false, narrowed := true }
def LogOverUptoSaid : Prop := logOverUptoRow.holds Try.pinned (OpenSpec.upto logOverSpec)

end Rows
end Go.Proofs.Ytangfnenfhkokaa
