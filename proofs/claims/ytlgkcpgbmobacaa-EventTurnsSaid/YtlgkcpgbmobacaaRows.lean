/-
  No cell of these rows narrows 'for every input' (looked for: loops, veiled, ifaces, maps, wideKeys, modest, calm, conditions, laid).
  DERIVED. THE GIVEN ROWS OF THIS SEAT. 10 by the template 'for every input the law returns true; each argument reads behind the call as it read before'; 0 by the template 'total and deterministic' (their statements: YtlgkcpgbmobacaaTotals.lean).
  GIVEN WITH THE SEED: the statements are not yours to turn. If you find one false, say at which input.
  Laid BY PROGRAM, IN A SANDBOX (cutbox-rows.mjs): the forced cells as the released guide's own fill.sh prints them over the translation 6f2d45b759c0c6da… (all of the seat's roots in one cut). By AI agents, Wed Nov 11 2026. No macro, syntax, notation, axiom, sorry.
-/
import Derived.Test.YtlgkcpgbmobacaaChecked
import GoSem.Claim
import GoSem.ClaimJoined
import GoSem.ClaimMapViews
import Derived.JoinedTies
import Derived.KernelRfl
namespace Go.Proofs.Ytlgkcpgbmobacaa
/- THE CELL 'sum', in the pinned program and in every row, IS THE sha256 OF THE DUMP (.gsa) THAT YtlgkcpgbmobacaaProg.lean LOADS. Nothing in Lean hashes anything: it is a label: what it is worth is what the hold of that sum in a sandbox is worth. -/
noncomputable def Try.pinned : Pinned := { name := "ytlgkcpgbmobacaa", sum := "6f2d45b759c0c6da5276eb658420e1616925373b54bd47997162423964ba0ed7", checked := Try.checked }
namespace Rows
def none {H : Type} : Left H := { results := [], args := [] }

/-- 'treeringlaw2.PenNums': WHATEVER THE INPUT: true; the input reads as it did. -/
def penNumsSpec : ChangeSpec := { name := "penNums", fn := fun _ => fun
  | [d1, d2] => { results := [.lit (.bool true)], args := [d1, d2] }
  | _ => none }
def penNumsRow : OpenClaim := { program := "ytlgkcpgbmobacaa", sum := "6f2d45b759c0c6da5276eb658420e1616925373b54bd47997162423964ba0ed7", func := "treering/treeringlaw2.PenNums", spec := "penNums", apart := false }
def PenNumsSaid : Prop := penNumsRow.holds Try.pinned (OpenSpec.ofChange penNumsSpec)

/-- ITS FALSE NEIGHBOUR: 'it returns false'. Refute it at one input. -/
def penNumsWrong : ChangeSpec := { name := "penNums", fn := fun _ => fun
  | [d1, d2] => { results := [.lit (.bool false)], args := [d1, d2] }
  | _ => none }
def PenNumsWrongFalsely : Prop := penNumsRow.holds Try.pinned (OpenSpec.ofChange penNumsWrong)

/-- 'treeringlaw2.PenRows': WHATEVER THE INPUT: true; the input reads as it did. -/
def penRowsSpec : ChangeSpec := { name := "penRows", fn := fun _ => fun
  | [d1, d2, d3] => { results := [.lit (.bool true)], args := [d1, d2, d3] }
  | _ => none }
def penRowsRow : OpenClaim := { program := "ytlgkcpgbmobacaa", sum := "6f2d45b759c0c6da5276eb658420e1616925373b54bd47997162423964ba0ed7", func := "treering/treeringlaw2.PenRows", spec := "penRows", apart := false }
def PenRowsSaid : Prop := penRowsRow.holds Try.pinned (OpenSpec.ofChange penRowsSpec)

/-- ITS FALSE NEIGHBOUR: 'it returns false'. Refute it at one input. -/
def penRowsWrong : ChangeSpec := { name := "penRows", fn := fun _ => fun
  | [d1, d2, d3] => { results := [.lit (.bool false)], args := [d1, d2, d3] }
  | _ => none }
def PenRowsWrongFalsely : Prop := penRowsRow.holds Try.pinned (OpenSpec.ofChange penRowsWrong)

/-- 'treeringlaw2.PenReads': WHATEVER THE INPUT: true; the input reads as it did. -/
def penReadsSpec : ChangeSpec := { name := "penReads", fn := fun _ => fun
  | [d1, d2] => { results := [.lit (.bool true)], args := [d1, d2] }
  | _ => none }
def penReadsRow : OpenClaim := { program := "ytlgkcpgbmobacaa", sum := "6f2d45b759c0c6da5276eb658420e1616925373b54bd47997162423964ba0ed7", func := "treering/treeringlaw2.PenReads", spec := "penReads", inPlace := ["math.Float64frombits", "math.Float64bits"], apart := false }
def PenReadsSaid : Prop := penReadsRow.holds Try.pinned (OpenSpec.ofChange penReadsSpec)

/-- ITS FALSE NEIGHBOUR: 'it returns false'. Refute it at one input. -/
def penReadsWrong : ChangeSpec := { name := "penReads", fn := fun _ => fun
  | [d1, d2] => { results := [.lit (.bool false)], args := [d1, d2] }
  | _ => none }
def PenReadsWrongFalsely : Prop := penReadsRow.holds Try.pinned (OpenSpec.ofChange penReadsWrong)

/-- 'treeringlaw2.PenTurns': WHATEVER THE INPUT: true; the input reads as it did. -/
def penTurnsSpec : ChangeSpec := { name := "penTurns", fn := fun _ => fun
  | [d1, d2, d3] => { results := [.lit (.bool true)], args := [d1, d2, d3] }
  | _ => none }
def penTurnsRow : OpenClaim := { program := "ytlgkcpgbmobacaa", sum := "6f2d45b759c0c6da5276eb658420e1616925373b54bd47997162423964ba0ed7", func := "treering/treeringlaw2.PenTurns", spec := "penTurns", inPlace := ["math.Float64bits", "math.Float64frombits"], apart := false }
def PenTurnsSaid : Prop := penTurnsRow.holds Try.pinned (OpenSpec.ofChange penTurnsSpec)

/-- ITS FALSE NEIGHBOUR: 'it returns false'. Refute it at one input. -/
def penTurnsWrong : ChangeSpec := { name := "penTurns", fn := fun _ => fun
  | [d1, d2, d3] => { results := [.lit (.bool false)], args := [d1, d2, d3] }
  | _ => none }
def PenTurnsWrongFalsely : Prop := penTurnsRow.holds Try.pinned (OpenSpec.ofChange penTurnsWrong)

/-- 'treeringlaw2.PenKnown': WHATEVER THE INPUT: true; the input reads as it did. -/
def penKnownSpec : ChangeSpec := { name := "penKnown", fn := fun _ => fun
  | [] => { results := [.lit (.bool true)], args := [] }
  | _ => none }
def penKnownRow : OpenClaim := { program := "ytlgkcpgbmobacaa", sum := "6f2d45b759c0c6da5276eb658420e1616925373b54bd47997162423964ba0ed7", func := "treering/treeringlaw2.PenKnown", spec := "penKnown", inPlace := ["math.Float64frombits", "math.Float64bits"], apart := false }
def PenKnownSaid : Prop := penKnownRow.holds Try.pinned (OpenSpec.ofChange penKnownSpec)

/-- ITS FALSE NEIGHBOUR: 'it returns false'. Refute it at one input. -/
def penKnownWrong : ChangeSpec := { name := "penKnown", fn := fun _ => fun
  | [] => { results := [.lit (.bool false)], args := [] }
  | _ => none }
def PenKnownWrongFalsely : Prop := penKnownRow.holds Try.pinned (OpenSpec.ofChange penKnownWrong)

/-- 'treeringlaw14.EventTurns': WHATEVER THE INPUT: true; the input reads as it did. -/
def eventTurnsSpec : ChangeSpec := { name := "eventTurns", fn := fun _ => fun
  | [d1, d2] => { results := [.lit (.bool true)], args := [d1, d2] }
  | _ => none }
def eventTurnsRow : OpenClaim := { program := "ytlgkcpgbmobacaa", sum := "6f2d45b759c0c6da5276eb658420e1616925373b54bd47997162423964ba0ed7", func := "treering/treeringlaw14.EventTurns", spec := "eventTurns", apart := false }
def EventTurnsSaid : Prop := eventTurnsRow.holds Try.pinned (OpenSpec.ofChange eventTurnsSpec)

/-- ITS FALSE NEIGHBOUR: 'it returns false'. Refute it at one input. -/
def eventTurnsWrong : ChangeSpec := { name := "eventTurns", fn := fun _ => fun
  | [d1, d2] => { results := [.lit (.bool false)], args := [d1, d2] }
  | _ => none }
def EventTurnsWrongFalsely : Prop := eventTurnsRow.holds Try.pinned (OpenSpec.ofChange eventTurnsWrong)

/-- 'treeringlaw14.EventReads': WHATEVER THE INPUT: true; the input reads as it did. -/
def eventReadsSpec : ChangeSpec := { name := "eventReads", fn := fun _ => fun
  | [d] => { results := [.lit (.bool true)], args := [d] }
  | _ => none }
def eventReadsRow : OpenClaim := { program := "ytlgkcpgbmobacaa", sum := "6f2d45b759c0c6da5276eb658420e1616925373b54bd47997162423964ba0ed7", func := "treering/treeringlaw14.EventReads", spec := "eventReads", apart := false }
def EventReadsSaid : Prop := eventReadsRow.holds Try.pinned (OpenSpec.ofChange eventReadsSpec)

/-- ITS FALSE NEIGHBOUR: 'it returns false'. Refute it at one input. -/
def eventReadsWrong : ChangeSpec := { name := "eventReads", fn := fun _ => fun
  | [d] => { results := [.lit (.bool false)], args := [d] }
  | _ => none }
def EventReadsWrongFalsely : Prop := eventReadsRow.holds Try.pinned (OpenSpec.ofChange eventReadsWrong)

/-- 'treeringlaw14.EventKnown': WHATEVER THE INPUT: true; the input reads as it did. -/
def eventKnownSpec : ChangeSpec := { name := "eventKnown", fn := fun _ => fun
  | [] => { results := [.lit (.bool true)], args := [] }
  | _ => none }
def eventKnownRow : OpenClaim := { program := "ytlgkcpgbmobacaa", sum := "6f2d45b759c0c6da5276eb658420e1616925373b54bd47997162423964ba0ed7", func := "treering/treeringlaw14.EventKnown", spec := "eventKnown", apart := false }
def EventKnownSaid : Prop := eventKnownRow.holds Try.pinned (OpenSpec.ofChange eventKnownSpec)

/-- ITS FALSE NEIGHBOUR: 'it returns false'. Refute it at one input. -/
def eventKnownWrong : ChangeSpec := { name := "eventKnown", fn := fun _ => fun
  | [] => { results := [.lit (.bool false)], args := [] }
  | _ => none }
def EventKnownWrongFalsely : Prop := eventKnownRow.holds Try.pinned (OpenSpec.ofChange eventKnownWrong)

/-- 'treeringlaw14.EventRows': WHATEVER THE INPUT: true; the input reads as it did. -/
def eventRowsSpec : ChangeSpec := { name := "eventRows", fn := fun _ => fun
  | [d] => { results := [.lit (.bool true)], args := [d] }
  | _ => none }
def eventRowsRow : OpenClaim := { program := "ytlgkcpgbmobacaa", sum := "6f2d45b759c0c6da5276eb658420e1616925373b54bd47997162423964ba0ed7", func := "treering/treeringlaw14.EventRows", spec := "eventRows", apart := false }
def EventRowsSaid : Prop := eventRowsRow.holds Try.pinned (OpenSpec.ofChange eventRowsSpec)

/-- ITS FALSE NEIGHBOUR: 'it returns false'. Refute it at one input. -/
def eventRowsWrong : ChangeSpec := { name := "eventRows", fn := fun _ => fun
  | [d] => { results := [.lit (.bool false)], args := [d] }
  | _ => none }
def EventRowsWrongFalsely : Prop := eventRowsRow.holds Try.pinned (OpenSpec.ofChange eventRowsWrong)

/-- 'treeringlaw14.EventApart': WHATEVER THE INPUT: true; the input reads as it did. -/
def eventApartSpec : ChangeSpec := { name := "eventApart", fn := fun _ => fun
  | [d1, d2] => { results := [.lit (.bool true)], args := [d1, d2] }
  | _ => none }
def eventApartRow : OpenClaim := { program := "ytlgkcpgbmobacaa", sum := "6f2d45b759c0c6da5276eb658420e1616925373b54bd47997162423964ba0ed7", func := "treering/treeringlaw14.EventApart", spec := "eventApart", apart := false }
def EventApartSaid : Prop := eventApartRow.holds Try.pinned (OpenSpec.ofChange eventApartSpec)

/-- ITS FALSE NEIGHBOUR: 'it returns false'. Refute it at one input. -/
def eventApartWrong : ChangeSpec := { name := "eventApart", fn := fun _ => fun
  | [d1, d2] => { results := [.lit (.bool false)], args := [d1, d2] }
  | _ => none }
def EventApartWrongFalsely : Prop := eventApartRow.holds Try.pinned (OpenSpec.ofChange eventApartWrong)

/- THE SECOND FORM. 'bulk': how many values and letters a reading holds, each counted each time it is reached (what is shared counts as often as it is met; a slice's spare places count too). A statement '..UptoSaid' is the law's where the arguments, and the package variables that the reading takes, are together of bulk at most 1048576: NARROWER than '..Said'. Prove '..Said' where nothing that the law and all that it calls make is longer than what came in: it says more and counts as full. Else prove '..UptoSaid'. A law counts once. -/
mutual
def uptoBulk {H : Type} : DataW H → Nat
  | .lit (.string bytes) => bytes.length + 1
  | .lit _ => 1
  | .nil => 1
  | .ptr d => uptoBulk d + 1
  | .slice elems spare => uptoBulkAll elems + uptoBulkAll spare + 1
  | .agg parts => uptoBulkAll parts + 1
  | .iface _ d => uptoBulk d + 1
  | .map entries => uptoBulkEntries entries + 1
  | .held _ => 1
def uptoBulkAll {H : Type} : List (DataW H) → Nat
  | [] => 0
  | d :: r => uptoBulk d + uptoBulkAll r
def uptoBulkEntries {H : Type} : List (Lit × DataW H) → Nat
  | [] => 0
  | x :: r => uptoBulkEntry x + uptoBulkEntries r
def uptoBulkEntry {H : Type} : Lit × DataW H → Nat
  | (.string bytes, d) => bytes.length + uptoBulk d + 1
  | (_, d) => uptoBulk d + 1
 end
def uptoSmall : (H : Type) → List (DataW H) → Bool := fun _ ds => decide (uptoBulkAll ds ≤ 1048576)
def OpenSpec.upto (s : _root_.Go.ChangeSpec) : _root_.Go.OpenSpec := { _root_.Go.OpenSpec.ofChange s with cond := some uptoSmall }

/-- 'treeringlaw2.PenNums', WHERE WHAT IT READS IS OF BULK AT MOST 1048576: true; the input reads as it did. -/
def penNumsUptoRow : OpenClaim := { program := "ytlgkcpgbmobacaa", sum := "6f2d45b759c0c6da5276eb658420e1616925373b54bd47997162423964ba0ed7", func := "treering/treeringlaw2.PenNums", spec := "penNums", apart := false, narrowed := true }
def PenNumsUptoSaid : Prop := penNumsUptoRow.holds Try.pinned (OpenSpec.upto penNumsSpec)

/-- 'treeringlaw2.PenRows', WHERE WHAT IT READS IS OF BULK AT MOST 1048576: true; the input reads as it did. -/
def penRowsUptoRow : OpenClaim := { program := "ytlgkcpgbmobacaa", sum := "6f2d45b759c0c6da5276eb658420e1616925373b54bd47997162423964ba0ed7", func := "treering/treeringlaw2.PenRows", spec := "penRows", apart := false, narrowed := true }
def PenRowsUptoSaid : Prop := penRowsUptoRow.holds Try.pinned (OpenSpec.upto penRowsSpec)

/-- 'treeringlaw2.PenReads', WHERE WHAT IT READS IS OF BULK AT MOST 1048576: true; the input reads as it did. -/
def penReadsUptoRow : OpenClaim := { program := "ytlgkcpgbmobacaa", sum := "6f2d45b759c0c6da5276eb658420e1616925373b54bd47997162423964ba0ed7", func := "treering/treeringlaw2.PenReads", spec := "penReads", inPlace := ["math.Float64frombits", "math.Float64bits"], apart := false, narrowed := true }
def PenReadsUptoSaid : Prop := penReadsUptoRow.holds Try.pinned (OpenSpec.upto penReadsSpec)

/-- 'treeringlaw2.PenTurns', WHERE WHAT IT READS IS OF BULK AT MOST 1048576: true; the input reads as it did. -/
def penTurnsUptoRow : OpenClaim := { program := "ytlgkcpgbmobacaa", sum := "6f2d45b759c0c6da5276eb658420e1616925373b54bd47997162423964ba0ed7", func := "treering/treeringlaw2.PenTurns", spec := "penTurns", inPlace := ["math.Float64bits", "math.Float64frombits"], apart := false, narrowed := true }
def PenTurnsUptoSaid : Prop := penTurnsUptoRow.holds Try.pinned (OpenSpec.upto penTurnsSpec)

/-- 'treeringlaw2.PenKnown', WHERE WHAT IT READS IS OF BULK AT MOST 1048576: true; the input reads as it did. -/
def penKnownUptoRow : OpenClaim := { program := "ytlgkcpgbmobacaa", sum := "6f2d45b759c0c6da5276eb658420e1616925373b54bd47997162423964ba0ed7", func := "treering/treeringlaw2.PenKnown", spec := "penKnown", inPlace := ["math.Float64frombits", "math.Float64bits"], apart := false, narrowed := true }
def PenKnownUptoSaid : Prop := penKnownUptoRow.holds Try.pinned (OpenSpec.upto penKnownSpec)

/-- 'treeringlaw14.EventTurns', WHERE WHAT IT READS IS OF BULK AT MOST 1048576: true; the input reads as it did. -/
def eventTurnsUptoRow : OpenClaim := { program := "ytlgkcpgbmobacaa", sum := "6f2d45b759c0c6da5276eb658420e1616925373b54bd47997162423964ba0ed7", func := "treering/treeringlaw14.EventTurns", spec := "eventTurns", apart := false, narrowed := true }
def EventTurnsUptoSaid : Prop := eventTurnsUptoRow.holds Try.pinned (OpenSpec.upto eventTurnsSpec)

/-- 'treeringlaw14.EventReads', WHERE WHAT IT READS IS OF BULK AT MOST 1048576: true; the input reads as it did. -/
def eventReadsUptoRow : OpenClaim := { program := "ytlgkcpgbmobacaa", sum := "6f2d45b759c0c6da5276eb658420e1616925373b54bd47997162423964ba0ed7", func := "treering/treeringlaw14.EventReads", spec := "eventReads", apart := false, narrowed := true }
def EventReadsUptoSaid : Prop := eventReadsUptoRow.holds Try.pinned (OpenSpec.upto eventReadsSpec)

/-- 'treeringlaw14.EventKnown', WHERE WHAT IT READS IS OF BULK AT MOST 1048576: true; the input reads as it did. -/
def eventKnownUptoRow : OpenClaim := { program := "ytlgkcpgbmobacaa", sum := "6f2d45b759c0c6da5276eb658420e1616925373b54bd47997162423964ba0ed7", func := "treering/treeringlaw14.EventKnown", spec := "eventKnown", apart := false, narrowed := true }
def EventKnownUptoSaid : Prop := eventKnownUptoRow.holds Try.pinned (OpenSpec.upto eventKnownSpec)

/-- 'treeringlaw14.EventRows', WHERE WHAT IT READS IS OF BULK AT MOST 1048576: true; the input reads as it did. -/
def eventRowsUptoRow : OpenClaim := { program := "ytlgkcpgbmobacaa", sum := "6f2d45b759c0c6da5276eb658420e1616925373b54bd47997162423964ba0ed7", func := "treering/treeringlaw14.EventRows", spec := "eventRows", apart := false, narrowed := true }
def EventRowsUptoSaid : Prop := eventRowsUptoRow.holds Try.pinned (OpenSpec.upto eventRowsSpec)

/-- 'treeringlaw14.EventApart', WHERE WHAT IT READS IS OF BULK AT MOST 1048576: true; the input reads as it did. -/
def eventApartUptoRow : OpenClaim := { program := "ytlgkcpgbmobacaa", sum := "6f2d45b759c0c6da5276eb658420e1616925373b54bd47997162423964ba0ed7", func := "treering/treeringlaw14.EventApart", spec := "eventApart", apart := false, narrowed := true }
def EventApartUptoSaid : Prop := eventApartUptoRow.holds Try.pinned (OpenSpec.upto eventApartSpec)

end Rows
end Go.Proofs.Ytlgkcpgbmobacaa
