/-
  No cell of these rows narrows 'for every input' (looked for: loops, veiled, ifaces, maps, wideKeys, modest, calm, conditions, laid).
  DERIVED. THE GIVEN ROWS OF THIS SEAT. 11 by the template 'for every input the law returns true; each argument reads behind the call as it read before'; 0 by the template 'total and deterministic' (their statements: YtlfcaigofakkoaaTotals.lean).
  GIVEN WITH THE SEED: the statements are not yours to turn. If you find one false, say at which input.
  Laid BY PROGRAM, IN A SANDBOX (cutbox-rows.mjs): the forced cells as the released guide's own fill.sh prints them over the translation 778424887c31f42f… (all of the seat's roots in one cut). By AI agents, Wed Nov 11 2026. No macro, syntax, notation, axiom, sorry.
-/
import Derived.Test.YtlfcaigofakkoaaChecked
import GoSem.Claim
import GoSem.ClaimJoined
import GoSem.ClaimMapViews
import Derived.JoinedTies
import Derived.KernelRfl
namespace Go.Proofs.Ytlfcaigofakkoaa
/- THE CELL 'sum', in the pinned program and in every row, IS THE sha256 OF THE DUMP (.gsa) THAT YtlfcaigofakkoaaProg.lean LOADS. Nothing in Lean hashes anything: it is a label: what it is worth is what the hold of that sum in a sandbox is worth. -/
noncomputable def Try.pinned : Pinned := { name := "ytlfcaigofakkoaa", sum := "778424887c31f42f8253489a3d301653dda9233ec6cf345caef1381adf29ab07", checked := Try.checked }
namespace Rows
def none {H : Type} : Left H := { results := [], args := [] }

/-- 'tidepolelaw01.BitsRound': WHATEVER THE INPUT: true; the input reads as it did. -/
def bitsRoundSpec : ChangeSpec := { name := "bitsRound", fn := fun _ => fun
  | [d] => { results := [.lit (.bool true)], args := [d] }
  | _ => none }
def bitsRoundRow : OpenClaim := { program := "ytlfcaigofakkoaa", sum := "778424887c31f42f8253489a3d301653dda9233ec6cf345caef1381adf29ab07", func := "tidepole/tidepolelaw01.BitsRound", spec := "bitsRound", apart := false }
def BitsRoundSaid : Prop := bitsRoundRow.holds Try.pinned (OpenSpec.ofChange bitsRoundSpec)

/-- ITS FALSE NEIGHBOUR: 'it returns false'. Refute it at one input. -/
def bitsRoundWrong : ChangeSpec := { name := "bitsRound", fn := fun _ => fun
  | [d] => { results := [.lit (.bool false)], args := [d] }
  | _ => none }
def BitsRoundWrongFalsely : Prop := bitsRoundRow.holds Try.pinned (OpenSpec.ofChange bitsRoundWrong)

/-- 'tidepolelaw01.BitsCut': WHATEVER THE INPUT: true; the input reads as it did. -/
def bitsCutSpec : ChangeSpec := { name := "bitsCut", fn := fun _ => fun
  | [d1, d2, d3] => { results := [.lit (.bool true)], args := [d1, d2, d3] }
  | _ => none }
def bitsCutRow : OpenClaim := { program := "ytlfcaigofakkoaa", sum := "778424887c31f42f8253489a3d301653dda9233ec6cf345caef1381adf29ab07", func := "tidepole/tidepolelaw01.BitsCut", spec := "bitsCut", apart := false }
def BitsCutSaid : Prop := bitsCutRow.holds Try.pinned (OpenSpec.ofChange bitsCutSpec)

/-- ITS FALSE NEIGHBOUR: 'it returns false'. Refute it at one input. -/
def bitsCutWrong : ChangeSpec := { name := "bitsCut", fn := fun _ => fun
  | [d1, d2, d3] => { results := [.lit (.bool false)], args := [d1, d2, d3] }
  | _ => none }
def BitsCutWrongFalsely : Prop := bitsCutRow.holds Try.pinned (OpenSpec.ofChange bitsCutWrong)

/-- 'tidepolelaw01.BitsWrites': WHATEVER THE INPUT: true; the input reads as it did. -/
def bitsWritesSpec : ChangeSpec := { name := "bitsWrites", fn := fun _ => fun
  | [d1, d2, d3] => { results := [.lit (.bool true)], args := [d1, d2, d3] }
  | _ => none }
def bitsWritesRow : OpenClaim := { program := "ytlfcaigofakkoaa", sum := "778424887c31f42f8253489a3d301653dda9233ec6cf345caef1381adf29ab07", func := "tidepole/tidepolelaw01.BitsWrites", spec := "bitsWrites", apart := false }
def BitsWritesSaid : Prop := bitsWritesRow.holds Try.pinned (OpenSpec.ofChange bitsWritesSpec)

/-- ITS FALSE NEIGHBOUR: 'it returns false'. Refute it at one input. -/
def bitsWritesWrong : ChangeSpec := { name := "bitsWrites", fn := fun _ => fun
  | [d1, d2, d3] => { results := [.lit (.bool false)], args := [d1, d2, d3] }
  | _ => none }
def BitsWritesWrongFalsely : Prop := bitsWritesRow.holds Try.pinned (OpenSpec.ofChange bitsWritesWrong)

/-- 'tidepolelaw01.BitsReads': WHATEVER THE INPUT: true; the input reads as it did. -/
def bitsReadsSpec : ChangeSpec := { name := "bitsReads", fn := fun _ => fun
  | [d1, d2, d3] => { results := [.lit (.bool true)], args := [d1, d2, d3] }
  | _ => none }
def bitsReadsRow : OpenClaim := { program := "ytlfcaigofakkoaa", sum := "778424887c31f42f8253489a3d301653dda9233ec6cf345caef1381adf29ab07", func := "tidepole/tidepolelaw01.BitsReads", spec := "bitsReads", apart := false }
def BitsReadsSaid : Prop := bitsReadsRow.holds Try.pinned (OpenSpec.ofChange bitsReadsSpec)

/-- ITS FALSE NEIGHBOUR: 'it returns false'. Refute it at one input. -/
def bitsReadsWrong : ChangeSpec := { name := "bitsReads", fn := fun _ => fun
  | [d1, d2, d3] => { results := [.lit (.bool false)], args := [d1, d2, d3] }
  | _ => none }
def BitsReadsWrongFalsely : Prop := bitsReadsRow.holds Try.pinned (OpenSpec.ofChange bitsReadsWrong)

/-- 'tidepolelaw03.VarintSigns': WHATEVER THE INPUT: true; the input reads as it did. -/
def varintSignsSpec : ChangeSpec := { name := "varintSigns", fn := fun _ => fun
  | [d1, d2] => { results := [.lit (.bool true)], args := [d1, d2] }
  | _ => none }
def varintSignsRow : OpenClaim := { program := "ytlfcaigofakkoaa", sum := "778424887c31f42f8253489a3d301653dda9233ec6cf345caef1381adf29ab07", func := "tidepole/tidepolelaw03.VarintSigns", spec := "varintSigns", apart := false }
def VarintSignsSaid : Prop := varintSignsRow.holds Try.pinned (OpenSpec.ofChange varintSignsSpec)

/-- ITS FALSE NEIGHBOUR: 'it returns false'. Refute it at one input. -/
def varintSignsWrong : ChangeSpec := { name := "varintSigns", fn := fun _ => fun
  | [d1, d2] => { results := [.lit (.bool false)], args := [d1, d2] }
  | _ => none }
def VarintSignsWrongFalsely : Prop := varintSignsRow.holds Try.pinned (OpenSpec.ofChange varintSignsWrong)

/-- 'tidepolelaw03.VarintReads': WHATEVER THE INPUT: true; the input reads as it did. -/
def varintReadsSpec : ChangeSpec := { name := "varintReads", fn := fun _ => fun
  | [d] => { results := [.lit (.bool true)], args := [d] }
  | _ => none }
def varintReadsRow : OpenClaim := { program := "ytlfcaigofakkoaa", sum := "778424887c31f42f8253489a3d301653dda9233ec6cf345caef1381adf29ab07", func := "tidepole/tidepolelaw03.VarintReads", spec := "varintReads", apart := false }
def VarintReadsSaid : Prop := varintReadsRow.holds Try.pinned (OpenSpec.ofChange varintReadsSpec)

/-- ITS FALSE NEIGHBOUR: 'it returns false'. Refute it at one input. -/
def varintReadsWrong : ChangeSpec := { name := "varintReads", fn := fun _ => fun
  | [d] => { results := [.lit (.bool false)], args := [d] }
  | _ => none }
def VarintReadsWrongFalsely : Prop := varintReadsRow.holds Try.pinned (OpenSpec.ofChange varintReadsWrong)

/-- 'tidepolelaw03.VarintPuts': WHATEVER THE INPUT: true; the input reads as it did. -/
def varintPutsSpec : ChangeSpec := { name := "varintPuts", fn := fun _ => fun
  | [d1, d2] => { results := [.lit (.bool true)], args := [d1, d2] }
  | _ => none }
def varintPutsRow : OpenClaim := { program := "ytlfcaigofakkoaa", sum := "778424887c31f42f8253489a3d301653dda9233ec6cf345caef1381adf29ab07", func := "tidepole/tidepolelaw03.VarintPuts", spec := "varintPuts", recurses := true, apart := false }
def VarintPutsSaid : Prop := varintPutsRow.holds Try.pinned (OpenSpec.ofChange varintPutsSpec)

/-- ITS FALSE NEIGHBOUR: 'it returns false'. Refute it at one input. -/
def varintPutsWrong : ChangeSpec := { name := "varintPuts", fn := fun _ => fun
  | [d1, d2] => { results := [.lit (.bool false)], args := [d1, d2] }
  | _ => none }
def VarintPutsWrongFalsely : Prop := varintPutsRow.holds Try.pinned (OpenSpec.ofChange varintPutsWrong)

/-- 'tidepolelaw12.ThresholdPowers': WHATEVER THE INPUT: true; the input reads as it did. -/
def thresholdPowersSpec : ChangeSpec := { name := "thresholdPowers", fn := fun _ => fun
  | [d1, d2] => { results := [.lit (.bool true)], args := [d1, d2] }
  | _ => none }
def thresholdPowersRow : OpenClaim := { program := "ytlfcaigofakkoaa", sum := "778424887c31f42f8253489a3d301653dda9233ec6cf345caef1381adf29ab07", func := "tidepole/tidepolelaw12.ThresholdPowers", spec := "thresholdPowers", apart := false }
def ThresholdPowersSaid : Prop := thresholdPowersRow.holds Try.pinned (OpenSpec.ofChange thresholdPowersSpec)

/-- ITS FALSE NEIGHBOUR: 'it returns false'. Refute it at one input. -/
def thresholdPowersWrong : ChangeSpec := { name := "thresholdPowers", fn := fun _ => fun
  | [d1, d2] => { results := [.lit (.bool false)], args := [d1, d2] }
  | _ => none }
def ThresholdPowersWrongFalsely : Prop := thresholdPowersRow.holds Try.pinned (OpenSpec.ofChange thresholdPowersWrong)

/-- 'tidepolelaw12.ThresholdOrder': WHATEVER THE INPUT: true; the input reads as it did. -/
def thresholdOrderSpec : ChangeSpec := { name := "thresholdOrder", fn := fun _ => fun
  | [d1, d2] => { results := [.lit (.bool true)], args := [d1, d2] }
  | _ => none }
def thresholdOrderRow : OpenClaim := { program := "ytlfcaigofakkoaa", sum := "778424887c31f42f8253489a3d301653dda9233ec6cf345caef1381adf29ab07", func := "tidepole/tidepolelaw12.ThresholdOrder", spec := "thresholdOrder", apart := false }
def ThresholdOrderSaid : Prop := thresholdOrderRow.holds Try.pinned (OpenSpec.ofChange thresholdOrderSpec)

/-- ITS FALSE NEIGHBOUR: 'it returns false'. Refute it at one input. -/
def thresholdOrderWrong : ChangeSpec := { name := "thresholdOrder", fn := fun _ => fun
  | [d1, d2] => { results := [.lit (.bool false)], args := [d1, d2] }
  | _ => none }
def ThresholdOrderWrongFalsely : Prop := thresholdOrderRow.holds Try.pinned (OpenSpec.ofChange thresholdOrderWrong)

/-- 'tidepolelaw12.ThresholdPuts': WHATEVER THE INPUT: true; the input reads as it did. -/
def thresholdPutsSpec : ChangeSpec := { name := "thresholdPuts", fn := fun _ => fun
  | [d1, d2] => { results := [.lit (.bool true)], args := [d1, d2] }
  | _ => none }
def thresholdPutsRow : OpenClaim := { program := "ytlfcaigofakkoaa", sum := "778424887c31f42f8253489a3d301653dda9233ec6cf345caef1381adf29ab07", func := "tidepole/tidepolelaw12.ThresholdPuts", spec := "thresholdPuts", apart := false }
def ThresholdPutsSaid : Prop := thresholdPutsRow.holds Try.pinned (OpenSpec.ofChange thresholdPutsSpec)

/-- ITS FALSE NEIGHBOUR: 'it returns false'. Refute it at one input. -/
def thresholdPutsWrong : ChangeSpec := { name := "thresholdPuts", fn := fun _ => fun
  | [d1, d2] => { results := [.lit (.bool false)], args := [d1, d2] }
  | _ => none }
def ThresholdPutsWrongFalsely : Prop := thresholdPutsRow.holds Try.pinned (OpenSpec.ofChange thresholdPutsWrong)

/-- 'tidepolelaw12.ThresholdReads': WHATEVER THE INPUT: true; the input reads as it did. -/
def thresholdReadsSpec : ChangeSpec := { name := "thresholdReads", fn := fun _ => fun
  | [d1, d2] => { results := [.lit (.bool true)], args := [d1, d2] }
  | _ => none }
def thresholdReadsRow : OpenClaim := { program := "ytlfcaigofakkoaa", sum := "778424887c31f42f8253489a3d301653dda9233ec6cf345caef1381adf29ab07", func := "tidepole/tidepolelaw12.ThresholdReads", spec := "thresholdReads", apart := false }
def ThresholdReadsSaid : Prop := thresholdReadsRow.holds Try.pinned (OpenSpec.ofChange thresholdReadsSpec)

/-- ITS FALSE NEIGHBOUR: 'it returns false'. Refute it at one input. -/
def thresholdReadsWrong : ChangeSpec := { name := "thresholdReads", fn := fun _ => fun
  | [d1, d2] => { results := [.lit (.bool false)], args := [d1, d2] }
  | _ => none }
def ThresholdReadsWrongFalsely : Prop := thresholdReadsRow.holds Try.pinned (OpenSpec.ofChange thresholdReadsWrong)

/- THE SECOND FORM. 'bulk': how many values and letters a reading holds, each counted each time it is reached (what is shared counts as often as it is met; a slice's spare places count too). A statement '..UptoSaid' is the law's where the arguments, and the package variables that the reading takes, are together of bulk at most 1048576: NARROWER than '..Said'. Prove '..Said' where nothing that the law and all that it calls make is longer than what came in: it says more and counts as full. Else prove '..UptoSaid'. A law counts once. -/
mutual
def uptoBulk {H : Type} : DataW H → Nat
  | .lit (.string bytes) => bytes.length + 1
  | .lit _ => 1
  | .nil => 1
  | .ptr d => uptoBulk d + 1
  | .slice elems spare => uptoBulkAll elems + uptoBulkAll spare + 1
  | .agg parts => uptoBulkAll parts + 1
  | .iface _ d => uptoBulk d + 1
  | .map entries => uptoBulkEntries entries + 1
  | .held _ => 1
def uptoBulkAll {H : Type} : List (DataW H) → Nat
  | [] => 0
  | d :: r => uptoBulk d + uptoBulkAll r
def uptoBulkEntries {H : Type} : List (Lit × DataW H) → Nat
  | [] => 0
  | x :: r => uptoBulkEntry x + uptoBulkEntries r
def uptoBulkEntry {H : Type} : Lit × DataW H → Nat
  | (.string bytes, d) => bytes.length + uptoBulk d + 1
  | (_, d) => uptoBulk d + 1
 end
def uptoSmall : (H : Type) → List (DataW H) → Bool := fun _ ds => decide (uptoBulkAll ds ≤ 1048576)
def OpenSpec.upto (s : _root_.Go.ChangeSpec) : _root_.Go.OpenSpec := { _root_.Go.OpenSpec.ofChange s with cond := some uptoSmall }

/-- 'tidepolelaw01.BitsRound', WHERE WHAT IT READS IS OF BULK AT MOST 1048576: true; the input reads as it did. -/
def bitsRoundUptoRow : OpenClaim := { program := "ytlfcaigofakkoaa", sum := "778424887c31f42f8253489a3d301653dda9233ec6cf345caef1381adf29ab07", func := "tidepole/tidepolelaw01.BitsRound", spec := "bitsRound", apart := false, narrowed := true }
def BitsRoundUptoSaid : Prop := bitsRoundUptoRow.holds Try.pinned (OpenSpec.upto bitsRoundSpec)

/-- 'tidepolelaw01.BitsCut', WHERE WHAT IT READS IS OF BULK AT MOST 1048576: true; the input reads as it did. -/
def bitsCutUptoRow : OpenClaim := { program := "ytlfcaigofakkoaa", sum := "778424887c31f42f8253489a3d301653dda9233ec6cf345caef1381adf29ab07", func := "tidepole/tidepolelaw01.BitsCut", spec := "bitsCut", apart := false, narrowed := true }
def BitsCutUptoSaid : Prop := bitsCutUptoRow.holds Try.pinned (OpenSpec.upto bitsCutSpec)

/-- 'tidepolelaw01.BitsWrites', WHERE WHAT IT READS IS OF BULK AT MOST 1048576: true; the input reads as it did. -/
def bitsWritesUptoRow : OpenClaim := { program := "ytlfcaigofakkoaa", sum := "778424887c31f42f8253489a3d301653dda9233ec6cf345caef1381adf29ab07", func := "tidepole/tidepolelaw01.BitsWrites", spec := "bitsWrites", apart := false, narrowed := true }
def BitsWritesUptoSaid : Prop := bitsWritesUptoRow.holds Try.pinned (OpenSpec.upto bitsWritesSpec)

/-- 'tidepolelaw01.BitsReads', WHERE WHAT IT READS IS OF BULK AT MOST 1048576: true; the input reads as it did. -/
def bitsReadsUptoRow : OpenClaim := { program := "ytlfcaigofakkoaa", sum := "778424887c31f42f8253489a3d301653dda9233ec6cf345caef1381adf29ab07", func := "tidepole/tidepolelaw01.BitsReads", spec := "bitsReads", apart := false, narrowed := true }
def BitsReadsUptoSaid : Prop := bitsReadsUptoRow.holds Try.pinned (OpenSpec.upto bitsReadsSpec)

/-- 'tidepolelaw03.VarintSigns', WHERE WHAT IT READS IS OF BULK AT MOST 1048576: true; the input reads as it did. -/
def varintSignsUptoRow : OpenClaim := { program := "ytlfcaigofakkoaa", sum := "778424887c31f42f8253489a3d301653dda9233ec6cf345caef1381adf29ab07", func := "tidepole/tidepolelaw03.VarintSigns", spec := "varintSigns", apart := false, narrowed := true }
def VarintSignsUptoSaid : Prop := varintSignsUptoRow.holds Try.pinned (OpenSpec.upto varintSignsSpec)

/-- 'tidepolelaw03.VarintReads', WHERE WHAT IT READS IS OF BULK AT MOST 1048576: true; the input reads as it did. -/
def varintReadsUptoRow : OpenClaim := { program := "ytlfcaigofakkoaa", sum := "778424887c31f42f8253489a3d301653dda9233ec6cf345caef1381adf29ab07", func := "tidepole/tidepolelaw03.VarintReads", spec := "varintReads", apart := false, narrowed := true }
def VarintReadsUptoSaid : Prop := varintReadsUptoRow.holds Try.pinned (OpenSpec.upto varintReadsSpec)

/-- 'tidepolelaw03.VarintPuts', WHERE WHAT IT READS IS OF BULK AT MOST 1048576: true; the input reads as it did. -/
def varintPutsUptoRow : OpenClaim := { program := "ytlfcaigofakkoaa", sum := "778424887c31f42f8253489a3d301653dda9233ec6cf345caef1381adf29ab07", func := "tidepole/tidepolelaw03.VarintPuts", spec := "varintPuts", recurses := true, apart := false, narrowed := true }
def VarintPutsUptoSaid : Prop := varintPutsUptoRow.holds Try.pinned (OpenSpec.upto varintPutsSpec)

/-- 'tidepolelaw12.ThresholdPowers', WHERE WHAT IT READS IS OF BULK AT MOST 1048576: true; the input reads as it did. -/
def thresholdPowersUptoRow : OpenClaim := { program := "ytlfcaigofakkoaa", sum := "778424887c31f42f8253489a3d301653dda9233ec6cf345caef1381adf29ab07", func := "tidepole/tidepolelaw12.ThresholdPowers", spec := "thresholdPowers", apart := false, narrowed := true }
def ThresholdPowersUptoSaid : Prop := thresholdPowersUptoRow.holds Try.pinned (OpenSpec.upto thresholdPowersSpec)

/-- 'tidepolelaw12.ThresholdOrder', WHERE WHAT IT READS IS OF BULK AT MOST 1048576: true; the input reads as it did. -/
def thresholdOrderUptoRow : OpenClaim := { program := "ytlfcaigofakkoaa", sum := "778424887c31f42f8253489a3d301653dda9233ec6cf345caef1381adf29ab07", func := "tidepole/tidepolelaw12.ThresholdOrder", spec := "thresholdOrder", apart := false, narrowed := true }
def ThresholdOrderUptoSaid : Prop := thresholdOrderUptoRow.holds Try.pinned (OpenSpec.upto thresholdOrderSpec)

/-- 'tidepolelaw12.ThresholdPuts', WHERE WHAT IT READS IS OF BULK AT MOST 1048576: true; the input reads as it did. -/
def thresholdPutsUptoRow : OpenClaim := { program := "ytlfcaigofakkoaa", sum := "778424887c31f42f8253489a3d301653dda9233ec6cf345caef1381adf29ab07", func := "tidepole/tidepolelaw12.ThresholdPuts", spec := "thresholdPuts", apart := false, narrowed := true }
def ThresholdPutsUptoSaid : Prop := thresholdPutsUptoRow.holds Try.pinned (OpenSpec.upto thresholdPutsSpec)

/-- 'tidepolelaw12.ThresholdReads', WHERE WHAT IT READS IS OF BULK AT MOST 1048576: true; the input reads as it did. -/
def thresholdReadsUptoRow : OpenClaim := { program := "ytlfcaigofakkoaa", sum := "778424887c31f42f8253489a3d301653dda9233ec6cf345caef1381adf29ab07", func := "tidepole/tidepolelaw12.ThresholdReads", spec := "thresholdReads", apart := false, narrowed := true }
def ThresholdReadsUptoSaid : Prop := thresholdReadsUptoRow.holds Try.pinned (OpenSpec.upto thresholdReadsSpec)

end Rows
end Go.Proofs.Ytlfcaigofakkoaa
