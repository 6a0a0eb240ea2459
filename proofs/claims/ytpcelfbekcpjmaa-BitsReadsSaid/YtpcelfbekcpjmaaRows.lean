/-
  No cell of these rows narrows 'for every input' (looked for: loops, veiled, ifaces, maps, wideKeys, modest, calm, conditions, laid).
  DERIVED. THE GIVEN ROWS OF THIS SEAT. 7 by the template 'for every input the law returns true; each argument reads behind the call as it read before'; 0 by the template 'total and deterministic' (their statements: YtpcelfbekcpjmaaTotals.lean).
  GIVEN WITH THE SEED: the statements are not yours to turn. If you find one false, say at which input.
  Laid BY PROGRAM, IN A SANDBOX (cutbox-rows.mjs): the forced cells as the released guide's own fill.sh prints them over the translation 1cd512f518ab9629… (all of the seat's roots in one cut). By AI agents, Wed Nov 11 2026. No macro, syntax, notation, axiom, sorry.
-/
import Derived.Test.YtpcelfbekcpjmaaChecked
import GoSem.Claim
import GoSem.ClaimJoined
import GoSem.ClaimMapViews
import Derived.JoinedTies
import Derived.KernelRfl
namespace Go.Proofs.Ytpcelfbekcpjmaa
/- THE CELL 'sum', in the pinned program and in every row, IS THE sha256 OF THE DUMP (.gsa) THAT YtpcelfbekcpjmaaProg.lean LOADS. Nothing in Lean hashes anything: it is a label: what it is worth is what the hold of that sum in a sandbox is worth. -/
noncomputable def Try.pinned : Pinned := { name := "ytpcelfbekcpjmaa", sum := "1cd512f518ab9629c74b63a4b838e56fcdde75c7d3af1996e1b37114f873b895", checked := Try.checked }
namespace Rows
def none {H : Type} : Left H := { results := [], args := [] }

/-- 'cruciblelaw01.BitsSplit': WHATEVER THE INPUT: true; the input reads as it did. -/
def bitsSplitSpec : ChangeSpec := { name := "bitsSplit", fn := fun _ => fun
  | [d1, d2, d3] => { results := [.lit (.bool true)], args := [d1, d2, d3] }
  | _ => none }
def bitsSplitRow : OpenClaim := { program := "ytpcelfbekcpjmaa", sum := "1cd512f518ab9629c74b63a4b838e56fcdde75c7d3af1996e1b37114f873b895", func := "crucible/cruciblelaw01.BitsSplit", spec := "bitsSplit", apart := false }
def BitsSplitSaid : Prop := bitsSplitRow.holds Try.pinned (OpenSpec.ofChange bitsSplitSpec)

/-- ITS FALSE NEIGHBOUR: 'it returns false'. Refute it at one input. -/
def bitsSplitWrong : ChangeSpec := { name := "bitsSplit", fn := fun _ => fun
  | [d1, d2, d3] => { results := [.lit (.bool false)], args := [d1, d2, d3] }
  | _ => none }
def BitsSplitWrongFalsely : Prop := bitsSplitRow.holds Try.pinned (OpenSpec.ofChange bitsSplitWrong)

/-- 'cruciblelaw01.BitsGets': WHATEVER THE INPUT: true; the input reads as it did. -/
def bitsGetsSpec : ChangeSpec := { name := "bitsGets", fn := fun _ => fun
  | [d1, d2, d3] => { results := [.lit (.bool true)], args := [d1, d2, d3] }
  | _ => none }
def bitsGetsRow : OpenClaim := { program := "ytpcelfbekcpjmaa", sum := "1cd512f518ab9629c74b63a4b838e56fcdde75c7d3af1996e1b37114f873b895", func := "crucible/cruciblelaw01.BitsGets", spec := "bitsGets", apart := false }
def BitsGetsSaid : Prop := bitsGetsRow.holds Try.pinned (OpenSpec.ofChange bitsGetsSpec)

/-- ITS FALSE NEIGHBOUR: 'it returns false'. Refute it at one input. -/
def bitsGetsWrong : ChangeSpec := { name := "bitsGets", fn := fun _ => fun
  | [d1, d2, d3] => { results := [.lit (.bool false)], args := [d1, d2, d3] }
  | _ => none }
def BitsGetsWrongFalsely : Prop := bitsGetsRow.holds Try.pinned (OpenSpec.ofChange bitsGetsWrong)

/-- 'cruciblelaw01.BitsWrites': WHATEVER THE INPUT: true; the input reads as it did. -/
def bitsWritesSpec : ChangeSpec := { name := "bitsWrites", fn := fun _ => fun
  | [d] => { results := [.lit (.bool true)], args := [d] }
  | _ => none }
def bitsWritesRow : OpenClaim := { program := "ytpcelfbekcpjmaa", sum := "1cd512f518ab9629c74b63a4b838e56fcdde75c7d3af1996e1b37114f873b895", func := "crucible/cruciblelaw01.BitsWrites", spec := "bitsWrites", apart := false }
def BitsWritesSaid : Prop := bitsWritesRow.holds Try.pinned (OpenSpec.ofChange bitsWritesSpec)

/-- ITS FALSE NEIGHBOUR: 'it returns false'. Refute it at one input. -/
def bitsWritesWrong : ChangeSpec := { name := "bitsWrites", fn := fun _ => fun
  | [d] => { results := [.lit (.bool false)], args := [d] }
  | _ => none }
def BitsWritesWrongFalsely : Prop := bitsWritesRow.holds Try.pinned (OpenSpec.ofChange bitsWritesWrong)

/-- 'cruciblelaw01.BitsReads': WHATEVER THE INPUT: true; the input reads as it did. -/
def bitsReadsSpec : ChangeSpec := { name := "bitsReads", fn := fun _ => fun
  | [d1, d2, d3] => { results := [.lit (.bool true)], args := [d1, d2, d3] }
  | _ => none }
def bitsReadsRow : OpenClaim := { program := "ytpcelfbekcpjmaa", sum := "1cd512f518ab9629c74b63a4b838e56fcdde75c7d3af1996e1b37114f873b895", func := "crucible/cruciblelaw01.BitsReads", spec := "bitsReads", apart := false }
def BitsReadsSaid : Prop := bitsReadsRow.holds Try.pinned (OpenSpec.ofChange bitsReadsSpec)

/-- ITS FALSE NEIGHBOUR: 'it returns false'. Refute it at one input. -/
def bitsReadsWrong : ChangeSpec := { name := "bitsReads", fn := fun _ => fun
  | [d1, d2, d3] => { results := [.lit (.bool false)], args := [d1, d2, d3] }
  | _ => none }
def BitsReadsWrongFalsely : Prop := bitsReadsRow.holds Try.pinned (OpenSpec.ofChange bitsReadsWrong)

/-- 'cruciblelaw01.BitsStops': WHATEVER THE INPUT: true; the input reads as it did. -/
def bitsStopsSpec : ChangeSpec := { name := "bitsStops", fn := fun _ => fun
  | [d1, d2, d3] => { results := [.lit (.bool true)], args := [d1, d2, d3] }
  | _ => none }
def bitsStopsRow : OpenClaim := { program := "ytpcelfbekcpjmaa", sum := "1cd512f518ab9629c74b63a4b838e56fcdde75c7d3af1996e1b37114f873b895", func := "crucible/cruciblelaw01.BitsStops", spec := "bitsStops", apart := false }
def BitsStopsSaid : Prop := bitsStopsRow.holds Try.pinned (OpenSpec.ofChange bitsStopsSpec)

/-- ITS FALSE NEIGHBOUR: 'it returns false'. Refute it at one input. -/
def bitsStopsWrong : ChangeSpec := { name := "bitsStops", fn := fun _ => fun
  | [d1, d2, d3] => { results := [.lit (.bool false)], args := [d1, d2, d3] }
  | _ => none }
def BitsStopsWrongFalsely : Prop := bitsStopsRow.holds Try.pinned (OpenSpec.ofChange bitsStopsWrong)

/-- 'cruciblelaw01.BitsSizes': WHATEVER THE INPUT: true; the input reads as it did. -/
def bitsSizesSpec : ChangeSpec := { name := "bitsSizes", fn := fun _ => fun
  | [d1, d2, d3] => { results := [.lit (.bool true)], args := [d1, d2, d3] }
  | _ => none }
def bitsSizesRow : OpenClaim := { program := "ytpcelfbekcpjmaa", sum := "1cd512f518ab9629c74b63a4b838e56fcdde75c7d3af1996e1b37114f873b895", func := "crucible/cruciblelaw01.BitsSizes", spec := "bitsSizes", apart := false }
def BitsSizesSaid : Prop := bitsSizesRow.holds Try.pinned (OpenSpec.ofChange bitsSizesSpec)

/-- ITS FALSE NEIGHBOUR: 'it returns false'. Refute it at one input. -/
def bitsSizesWrong : ChangeSpec := { name := "bitsSizes", fn := fun _ => fun
  | [d1, d2, d3] => { results := [.lit (.bool false)], args := [d1, d2, d3] }
  | _ => none }
def BitsSizesWrongFalsely : Prop := bitsSizesRow.holds Try.pinned (OpenSpec.ofChange bitsSizesWrong)

/-- 'cruciblelaw01.BitsBack': WHATEVER THE INPUT: true; the input reads as it did. -/
def bitsBackSpec : ChangeSpec := { name := "bitsBack", fn := fun _ => fun
  | [d] => { results := [.lit (.bool true)], args := [d] }
  | _ => none }
def bitsBackRow : OpenClaim := { program := "ytpcelfbekcpjmaa", sum := "1cd512f518ab9629c74b63a4b838e56fcdde75c7d3af1996e1b37114f873b895", func := "crucible/cruciblelaw01.BitsBack", spec := "bitsBack", apart := false }
def BitsBackSaid : Prop := bitsBackRow.holds Try.pinned (OpenSpec.ofChange bitsBackSpec)

/-- ITS FALSE NEIGHBOUR: 'it returns false'. Refute it at one input. -/
def bitsBackWrong : ChangeSpec := { name := "bitsBack", fn := fun _ => fun
  | [d] => { results := [.lit (.bool false)], args := [d] }
  | _ => none }
def BitsBackWrongFalsely : Prop := bitsBackRow.holds Try.pinned (OpenSpec.ofChange bitsBackWrong)

/- THE SECOND FORM. 'bulk': how many values and letters a reading holds, each counted each time it is reached (what is shared counts as often as it is met; a slice's spare places count too). A statement '..UptoSaid' is the law's where the arguments, and the package variables that the reading takes, are together of bulk at most 1048576: NARROWER than '..Said'. Prove '..Said' where nothing that the law and all that it calls make is longer than what came in: it says more and counts as full. Else prove '..UptoSaid'. A law counts once. -/
mutual
def uptoBulk {H : Type} : DataW H → Nat
  | .lit (.string bytes) => bytes.length + 1
  | .lit _ => 1
  | .nil => 1
  | .ptr d => uptoBulk d + 1
  | .slice elems spare => uptoBulkAll elems + uptoBulkAll spare + 1
  | .agg parts => uptoBulkAll parts + 1
  | .iface _ d => uptoBulk d + 1
  | .map entries => uptoBulkEntries entries + 1
  | .held _ => 1
def uptoBulkAll {H : Type} : List (DataW H) → Nat
  | [] => 0
  | d :: r => uptoBulk d + uptoBulkAll r
def uptoBulkEntries {H : Type} : List (Lit × DataW H) → Nat
  | [] => 0
  | x :: r => uptoBulkEntry x + uptoBulkEntries r
def uptoBulkEntry {H : Type} : Lit × DataW H → Nat
  | (.string bytes, d) => bytes.length + uptoBulk d + 1
  | (_, d) => uptoBulk d + 1
 end
def uptoSmall : (H : Type) → List (DataW H) → Bool := fun _ ds => decide (uptoBulkAll ds ≤ 1048576)
def OpenSpec.upto (s : _root_.Go.ChangeSpec) : _root_.Go.OpenSpec := { _root_.Go.OpenSpec.ofChange s with cond := some uptoSmall }

/-- 'cruciblelaw01.BitsSplit', WHERE WHAT IT READS IS OF BULK AT MOST 1048576: true; the input reads as it did. -/
def bitsSplitUptoRow : OpenClaim := { program := "ytpcelfbekcpjmaa", sum := "1cd512f518ab9629c74b63a4b838e56fcdde75c7d3af1996e1b37114f873b895", func := "crucible/cruciblelaw01.BitsSplit", spec := "bitsSplit", apart := false, narrowed := true }
def BitsSplitUptoSaid : Prop := bitsSplitUptoRow.holds Try.pinned (OpenSpec.upto bitsSplitSpec)

/-- 'cruciblelaw01.BitsGets', WHERE WHAT IT READS IS OF BULK AT MOST 1048576: true; the input reads as it did. -/
def bitsGetsUptoRow : OpenClaim := { program := "ytpcelfbekcpjmaa", sum := "1cd512f518ab9629c74b63a4b838e56fcdde75c7d3af1996e1b37114f873b895", func := "crucible/cruciblelaw01.BitsGets", spec := "bitsGets", apart := false, narrowed := true }
def BitsGetsUptoSaid : Prop := bitsGetsUptoRow.holds Try.pinned (OpenSpec.upto bitsGetsSpec)

/-- 'cruciblelaw01.BitsWrites', WHERE WHAT IT READS IS OF BULK AT MOST 1048576: true; the input reads as it did. -/
def bitsWritesUptoRow : OpenClaim := { program := "ytpcelfbekcpjmaa", sum := "1cd512f518ab9629c74b63a4b838e56fcdde75c7d3af1996e1b37114f873b895", func := "crucible/cruciblelaw01.BitsWrites", spec := "bitsWrites", apart := false, narrowed := true }
def BitsWritesUptoSaid : Prop := bitsWritesUptoRow.holds Try.pinned (OpenSpec.upto bitsWritesSpec)

/-- 'cruciblelaw01.BitsReads', WHERE WHAT IT READS IS OF BULK AT MOST 1048576: true; the input reads as it did. -/
def bitsReadsUptoRow : OpenClaim := { program := "ytpcelfbekcpjmaa", sum := "1cd512f518ab9629c74b63a4b838e56fcdde75c7d3af1996e1b37114f873b895", func := "crucible/cruciblelaw01.BitsReads", spec := "bitsReads", apart := false, narrowed := true }
def BitsReadsUptoSaid : Prop := bitsReadsUptoRow.holds Try.pinned (OpenSpec.upto bitsReadsSpec)

/-- 'cruciblelaw01.BitsStops', WHERE WHAT IT READS IS OF BULK AT MOST 1048576: true; the input reads as it did. -/
def bitsStopsUptoRow : OpenClaim := { program := "ytpcelfbekcpjmaa", sum := "1cd512f518ab9629c74b63a4b838e56fcdde75c7d3af1996e1b37114f873b895", func := "crucible/cruciblelaw01.BitsStops", spec := "bitsStops", apart := false, narrowed := true }
def BitsStopsUptoSaid : Prop := bitsStopsUptoRow.holds Try.pinned (OpenSpec.upto bitsStopsSpec)

/-- 'cruciblelaw01.BitsSizes', WHERE WHAT IT READS IS OF BULK AT MOST 1048576: true; the input reads as it did. -/
def bitsSizesUptoRow : OpenClaim := { program := "ytpcelfbekcpjmaa", sum := "1cd512f518ab9629c74b63a4b838e56fcdde75c7d3af1996e1b37114f873b895", func := "crucible/cruciblelaw01.BitsSizes", spec := "bitsSizes", apart := false, narrowed := true }
def BitsSizesUptoSaid : Prop := bitsSizesUptoRow.holds Try.pinned (OpenSpec.upto bitsSizesSpec)

/-- 'cruciblelaw01.BitsBack', WHERE WHAT IT READS IS OF BULK AT MOST 1048576: true; the input reads as it did. -/
def bitsBackUptoRow : OpenClaim := { program := "ytpcelfbekcpjmaa", sum := "1cd512f518ab9629c74b63a4b838e56fcdde75c7d3af1996e1b37114f873b895", func := "crucible/cruciblelaw01.BitsBack", spec := "bitsBack", apart := false, narrowed := true }
def BitsBackUptoSaid : Prop := bitsBackUptoRow.holds Try.pinned (OpenSpec.upto bitsBackSpec)

end Rows
end Go.Proofs.Ytpcelfbekcpjmaa
