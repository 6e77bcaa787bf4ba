/-
  No cell of these rows narrows 'for every input' (looked for: loops, veiled, ifaces, maps, wideKeys, modest, calm, conditions, laid).
  DERIVED. THE GIVEN ROWS OF THIS SEAT. 7 by the template 'for every input the law returns true; each argument reads behind the call as it read before'; 0 by the template 'total and deterministic' (their statements: YtlddpcbbhglibaaTotals.lean).
  GIVEN WITH THE SEED: the statements are not yours to turn. If you find one false, say at which input.
  Laid BY PROGRAM, IN A SANDBOX (cutbox-rows.mjs): the forced cells as the released guide's own fill.sh prints them over the translation 4dd97ad8506c9bdc… (all of the seat's roots in one cut). By AI agents, Wed Nov 11 2026. No macro, syntax, notation, axiom, sorry.
-/
import Derived.Test.YtlddpcbbhglibaaChecked
import GoSem.Claim
import GoSem.ClaimJoined
import GoSem.ClaimMapViews
import Derived.JoinedTies
import Derived.KernelRfl
namespace Go.Proofs.Ytlddpcbbhglibaa
/- THE CELL 'sum', in the pinned program and in every row, IS THE sha256 OF THE DUMP (.gsa) THAT YtlddpcbbhglibaaProg.lean LOADS. Nothing in Lean hashes anything: it is a label: what it is worth is what the hold of that sum in a sandbox is worth. -/
noncomputable def Try.pinned : Pinned := { name := "ytlddpcbbhglibaa", sum := "4dd97ad8506c9bdcb98982df651cb168ea3f6db3ec4ba225c26aa1e8df597e19", checked := Try.checked }
namespace Rows
def none {H : Type} : Left H := { results := [], args := [] }

/-- 'catchmentlaw09.TrigramSets': WHATEVER THE INPUT: true; the input reads as it did. -/
def trigramSetsSpec : ChangeSpec := { name := "trigramSets", fn := fun _ => fun
  | [d1, d2] => { results := [.lit (.bool true)], args := [d1, d2] }
  | _ => none }
def trigramSetsRow : OpenClaim := { program := "ytlddpcbbhglibaa", sum := "4dd97ad8506c9bdcb98982df651cb168ea3f6db3ec4ba225c26aa1e8df597e19", func := "catchment/catchmentlaw09.TrigramSets", spec := "trigramSets", plainKeys := false, apart := false }
def TrigramSetsSaid : Prop := trigramSetsRow.holds Try.pinned (OpenSpec.ofChange trigramSetsSpec)

/-- ITS FALSE NEIGHBOUR: 'it returns false'. Refute it at one input. -/
def trigramSetsWrong : ChangeSpec := { name := "trigramSets", fn := fun _ => fun
  | [d1, d2] => { results := [.lit (.bool false)], args := [d1, d2] }
  | _ => none }
def TrigramSetsWrongFalsely : Prop := trigramSetsRow.holds Try.pinned (OpenSpec.ofChange trigramSetsWrong)

/-- 'catchmentlaw09.TrigramBehind': WHATEVER THE INPUT: true; the input reads as it did. -/
def trigramBehindSpec : ChangeSpec := { name := "trigramBehind", fn := fun _ => fun
  | [d1, d2] => { results := [.lit (.bool true)], args := [d1, d2] }
  | _ => none }
def trigramBehindRow : OpenClaim := { program := "ytlddpcbbhglibaa", sum := "4dd97ad8506c9bdcb98982df651cb168ea3f6db3ec4ba225c26aa1e8df597e19", func := "catchment/catchmentlaw09.TrigramBehind", spec := "trigramBehind", plainKeys := false, apart := false }
def TrigramBehindSaid : Prop := trigramBehindRow.holds Try.pinned (OpenSpec.ofChange trigramBehindSpec)

/-- ITS FALSE NEIGHBOUR: 'it returns false'. Refute it at one input. -/
def trigramBehindWrong : ChangeSpec := { name := "trigramBehind", fn := fun _ => fun
  | [d1, d2] => { results := [.lit (.bool false)], args := [d1, d2] }
  | _ => none }
def TrigramBehindWrongFalsely : Prop := trigramBehindRow.holds Try.pinned (OpenSpec.ofChange trigramBehindWrong)

/-- 'catchmentlaw09.TrigramShort': WHATEVER THE INPUT: true; the input reads as it did. -/
def trigramShortSpec : ChangeSpec := { name := "trigramShort", fn := fun _ => fun
  | [d1, d2, d3] => { results := [.lit (.bool true)], args := [d1, d2, d3] }
  | _ => none }
def trigramShortRow : OpenClaim := { program := "ytlddpcbbhglibaa", sum := "4dd97ad8506c9bdcb98982df651cb168ea3f6db3ec4ba225c26aa1e8df597e19", func := "catchment/catchmentlaw09.TrigramShort", spec := "trigramShort", plainKeys := false, apart := false }
def TrigramShortSaid : Prop := trigramShortRow.holds Try.pinned (OpenSpec.ofChange trigramShortSpec)

/-- ITS FALSE NEIGHBOUR: 'it returns false'. Refute it at one input. -/
def trigramShortWrong : ChangeSpec := { name := "trigramShort", fn := fun _ => fun
  | [d1, d2, d3] => { results := [.lit (.bool false)], args := [d1, d2, d3] }
  | _ => none }
def TrigramShortWrongFalsely : Prop := trigramShortRow.holds Try.pinned (OpenSpec.ofChange trigramShortWrong)

/-- 'catchmentlaw09.TrigramMarks': WHATEVER THE INPUT: true; the input reads as it did. -/
def trigramMarksSpec : ChangeSpec := { name := "trigramMarks", fn := fun _ => fun
  | [d] => { results := [.lit (.bool true)], args := [d] }
  | _ => none }
def trigramMarksRow : OpenClaim := { program := "ytlddpcbbhglibaa", sum := "4dd97ad8506c9bdcb98982df651cb168ea3f6db3ec4ba225c26aa1e8df597e19", func := "catchment/catchmentlaw09.TrigramMarks", spec := "trigramMarks", plainKeys := false, apart := false }
def TrigramMarksSaid : Prop := trigramMarksRow.holds Try.pinned (OpenSpec.ofChange trigramMarksSpec)

/-- ITS FALSE NEIGHBOUR: 'it returns false'. Refute it at one input. -/
def trigramMarksWrong : ChangeSpec := { name := "trigramMarks", fn := fun _ => fun
  | [d] => { results := [.lit (.bool false)], args := [d] }
  | _ => none }
def TrigramMarksWrongFalsely : Prop := trigramMarksRow.holds Try.pinned (OpenSpec.ofChange trigramMarksWrong)

/-- 'catchmentlaw09.TrigramParts': WHATEVER THE INPUT: true; the input reads as it did. -/
def trigramPartsSpec : ChangeSpec := { name := "trigramParts", fn := fun _ => fun
  | [d1, d2, d3] => { results := [.lit (.bool true)], args := [d1, d2, d3] }
  | _ => none }
def trigramPartsRow : OpenClaim := { program := "ytlddpcbbhglibaa", sum := "4dd97ad8506c9bdcb98982df651cb168ea3f6db3ec4ba225c26aa1e8df597e19", func := "catchment/catchmentlaw09.TrigramParts", spec := "trigramParts", plainKeys := false, apart := false }
def TrigramPartsSaid : Prop := trigramPartsRow.holds Try.pinned (OpenSpec.ofChange trigramPartsSpec)

/-- ITS FALSE NEIGHBOUR: 'it returns false'. Refute it at one input. -/
def trigramPartsWrong : ChangeSpec := { name := "trigramParts", fn := fun _ => fun
  | [d1, d2, d3] => { results := [.lit (.bool false)], args := [d1, d2, d3] }
  | _ => none }
def TrigramPartsWrongFalsely : Prop := trigramPartsRow.holds Try.pinned (OpenSpec.ofChange trigramPartsWrong)

/-- 'catchmentlaw10.HintsSure': WHATEVER THE INPUT: true; the input reads as it did. -/
def hintsSureSpec : ChangeSpec := { name := "hintsSure", fn := fun _ => fun
  | [d1, d2, d3] => { results := [.lit (.bool true)], args := [d1, d2, d3] }
  | _ => none }
def hintsSureRow : OpenClaim := { program := "ytlddpcbbhglibaa", sum := "4dd97ad8506c9bdcb98982df651cb168ea3f6db3ec4ba225c26aa1e8df597e19", func := "catchment/catchmentlaw10.HintsSure", spec := "hintsSure", plainKeys := false, apart := false }
def HintsSureSaid : Prop := hintsSureRow.holds Try.pinned (OpenSpec.ofChange hintsSureSpec)

/-- ITS FALSE NEIGHBOUR: 'it returns false'. Refute it at one input. -/
def hintsSureWrong : ChangeSpec := { name := "hintsSure", fn := fun _ => fun
  | [d1, d2, d3] => { results := [.lit (.bool false)], args := [d1, d2, d3] }
  | _ => none }
def HintsSureWrongFalsely : Prop := hintsSureRow.holds Try.pinned (OpenSpec.ofChange hintsSureWrong)

/-- 'catchmentlaw10.HintsGrow': WHATEVER THE INPUT: true; the input reads as it did. -/
def hintsGrowSpec : ChangeSpec := { name := "hintsGrow", fn := fun _ => fun
  | [d1, d2, d3] => { results := [.lit (.bool true)], args := [d1, d2, d3] }
  | _ => none }
def hintsGrowRow : OpenClaim := { program := "ytlddpcbbhglibaa", sum := "4dd97ad8506c9bdcb98982df651cb168ea3f6db3ec4ba225c26aa1e8df597e19", func := "catchment/catchmentlaw10.HintsGrow", spec := "hintsGrow", inPlace := ["maps.clone"], plainKeys := false, apart := false }
def HintsGrowSaid : Prop := hintsGrowRow.holds Try.pinned (OpenSpec.ofChange hintsGrowSpec)

/-- ITS FALSE NEIGHBOUR: 'it returns false'. Refute it at one input. -/
def hintsGrowWrong : ChangeSpec := { name := "hintsGrow", fn := fun _ => fun
  | [d1, d2, d3] => { results := [.lit (.bool false)], args := [d1, d2, d3] }
  | _ => none }
def HintsGrowWrongFalsely : Prop := hintsGrowRow.holds Try.pinned (OpenSpec.ofChange hintsGrowWrong)

/- THE SECOND FORM. 'bulk': how many values and letters a reading holds, each counted each time it is reached (what is shared counts as often as it is met; a slice's spare places count too). A statement '..UptoSaid' is the law's where the arguments, and the package variables that the reading takes, are together of bulk at most 1048576: NARROWER than '..Said'. Prove '..Said' where nothing that the law and all that it calls make is longer than what came in: it says more and counts as full. Else prove '..UptoSaid'. A law counts once. -/
mutual
def uptoBulk {H : Type} : DataW H → Nat
  | .lit (.string bytes) => bytes.length + 1
  | .lit _ => 1
  | .nil => 1
  | .ptr d => uptoBulk d + 1
  | .slice elems spare => uptoBulkAll elems + uptoBulkAll spare + 1
  | .agg parts => uptoBulkAll parts + 1
  | .iface _ d => uptoBulk d + 1
  | .map entries => uptoBulkEntries entries + 1
  | .held _ => 1
def uptoBulkAll {H : Type} : List (DataW H) → Nat
  | [] => 0
  | d :: r => uptoBulk d + uptoBulkAll r
def uptoBulkEntries {H : Type} : List (Lit × DataW H) → Nat
  | [] => 0
  | x :: r => uptoBulkEntry x + uptoBulkEntries r
def uptoBulkEntry {H : Type} : Lit × DataW H → Nat
  | (.string bytes, d) => bytes.length + uptoBulk d + 1
  | (_, d) => uptoBulk d + 1
 end
def uptoSmall : (H : Type) → List (DataW H) → Bool := fun _ ds => decide (uptoBulkAll ds ≤ 1048576)
def OpenSpec.upto (s : _root_.Go.ChangeSpec) : _root_.Go.OpenSpec := { _root_.Go.OpenSpec.ofChange s with cond := some uptoSmall }

/-- 'catchmentlaw09.TrigramSets', WHERE WHAT IT READS IS OF BULK AT MOST 1048576: true; the input reads as it did. -/
def trigramSetsUptoRow : OpenClaim := { program := "ytlddpcbbhglibaa", sum := "4dd97ad8506c9bdcb98982df651cb168ea3f6db3ec4ba225c26aa1e8df597e19", func := "catchment/catchmentlaw09.TrigramSets", spec := "trigramSets", plainKeys := false, apart := false, narrowed := true }
def TrigramSetsUptoSaid : Prop := trigramSetsUptoRow.holds Try.pinned (OpenSpec.upto trigramSetsSpec)

/-- 'catchmentlaw09.TrigramBehind', WHERE WHAT IT READS IS OF BULK AT MOST 1048576: true; the input reads as it did. -/
def trigramBehindUptoRow : OpenClaim := { program := "ytlddpcbbhglibaa", sum := "4dd97ad8506c9bdcb98982df651cb168ea3f6db3ec4ba225c26aa1e8df597e19", func := "catchment/catchmentlaw09.TrigramBehind", spec := "trigramBehind", plainKeys := false, apart := false, narrowed := true }
def TrigramBehindUptoSaid : Prop := trigramBehindUptoRow.holds Try.pinned (OpenSpec.upto trigramBehindSpec)

/-- 'catchmentlaw09.TrigramShort', WHERE WHAT IT READS IS OF BULK AT MOST 1048576: true; the input reads as it did. -/
def trigramShortUptoRow : OpenClaim := { program := "ytlddpcbbhglibaa", sum := "4dd97ad8506c9bdcb98982df651cb168ea3f6db3ec4ba225c26aa1e8df597e19", func := "catchment/catchmentlaw09.TrigramShort", spec := "trigramShort", plainKeys := false, apart := false, narrowed := true }
def TrigramShortUptoSaid : Prop := trigramShortUptoRow.holds Try.pinned (OpenSpec.upto trigramShortSpec)

/-- 'catchmentlaw09.TrigramMarks', WHERE WHAT IT READS IS OF BULK AT MOST 1048576: true; the input reads as it did. -/
def trigramMarksUptoRow : OpenClaim := { program := "ytlddpcbbhglibaa", sum := "4dd97ad8506c9bdcb98982df651cb168ea3f6db3ec4ba225c26aa1e8df597e19", func := "catchment/catchmentlaw09.TrigramMarks", spec := "trigramMarks", plainKeys := false, apart := false, narrowed := true }
def TrigramMarksUptoSaid : Prop := trigramMarksUptoRow.holds Try.pinned (OpenSpec.upto trigramMarksSpec)

/-- 'catchmentlaw09.TrigramParts', WHERE WHAT IT READS IS OF BULK AT MOST 1048576: true; the input reads as it did. -/
def trigramPartsUptoRow : OpenClaim := { program := "ytlddpcbbhglibaa", sum := "4dd97ad8506c9bdcb98982df651cb168ea3f6db3ec4ba225c26aa1e8df597e19", func := "catchment/catchmentlaw09.TrigramParts", spec := "trigramParts", plainKeys := false, apart := false, narrowed := true }
def TrigramPartsUptoSaid : Prop := trigramPartsUptoRow.holds Try.pinned (OpenSpec.upto trigramPartsSpec)

/-- 'catchmentlaw10.HintsSure', WHERE WHAT IT READS IS OF BULK AT MOST 1048576: true; the input reads as it did. -/
def hintsSureUptoRow : OpenClaim := { program := "ytlddpcbbhglibaa", sum := "4dd97ad8506c9bdcb98982df651cb168ea3f6db3ec4ba225c26aa1e8df597e19", func := "catchment/catchmentlaw10.HintsSure", spec := "hintsSure", plainKeys := false, apart := false, narrowed := true }
def HintsSureUptoSaid : Prop := hintsSureUptoRow.holds Try.pinned (OpenSpec.upto hintsSureSpec)

/-- 'catchmentlaw10.HintsGrow', WHERE WHAT IT READS IS OF BULK AT MOST 1048576: true; the input reads as it did. -/
def hintsGrowUptoRow : OpenClaim := { program := "ytlddpcbbhglibaa", sum := "4dd97ad8506c9bdcb98982df651cb168ea3f6db3ec4ba225c26aa1e8df597e19", func := "catchment/catchmentlaw10.HintsGrow", spec := "hintsGrow", inPlace := ["maps.clone"], plainKeys := false, apart := false, narrowed := true }
def HintsGrowUptoSaid : Prop := hintsGrowUptoRow.holds Try.pinned (OpenSpec.upto hintsGrowSpec)

end Rows
end Go.Proofs.Ytlddpcbbhglibaa
