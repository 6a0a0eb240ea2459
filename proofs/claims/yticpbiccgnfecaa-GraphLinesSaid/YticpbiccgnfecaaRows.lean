/-
  No cell of these rows narrows 'for every input' (looked for: loops, veiled, ifaces, maps, wideKeys, modest, calm, conditions, laid).
  DERIVED. THE GIVEN ROWS OF THIS SEAT. 8 by the template 'for every input the law returns true; each argument reads behind the call as it read before'; 0 by the template 'total and deterministic' (their statements: YticpbiccgnfecaaTotals.lean).
  GIVEN WITH THE SEED: the statements are not yours to turn. If you find one false, say at which input.
  Laid BY PROGRAM, IN A SANDBOX (cutbox-rows.mjs): the forced cells as the released guide's own fill.sh prints them over the translation 6e58b4067e537fed… (all of the seat's roots in one cut). By AI agents, Wed Nov 11 2026. No macro, syntax, notation, axiom, sorry.
-/
import Derived.Test.YticpbiccgnfecaaChecked
import GoSem.Claim
import GoSem.ClaimJoined
import GoSem.ClaimMapViews
import Derived.JoinedTies
import Derived.KernelRfl
namespace Go.Proofs.Yticpbiccgnfecaa
/- THE CELL 'sum', in the pinned program and in every row, IS THE sha256 OF THE DUMP (.gsa) THAT YticpbiccgnfecaaProg.lean LOADS. Nothing in Lean hashes anything: it is a label: what it is worth is what the hold of that sum in a sandbox is worth. -/
noncomputable def Try.pinned : Pinned := { name := "yticpbiccgnfecaa", sum := "6e58b4067e537feda34e9be55af6eb9f60c44e039a2e0e34b83a7cf753a781c9", checked := Try.checked }
namespace Rows
def none {H : Type} : Left H := { results := [], args := [] }

/-- 'cruciblelaw07.GraphIs': WHATEVER THE INPUT: true; the input reads as it did. -/
def graphIsSpec : ChangeSpec := { name := "graphIs", fn := fun _ => fun
  | [d1, d2, d3] => { results := [.lit (.bool true)], args := [d1, d2, d3] }
  | _ => none }
def graphIsRow : OpenClaim := { program := "yticpbiccgnfecaa", sum := "6e58b4067e537feda34e9be55af6eb9f60c44e039a2e0e34b83a7cf753a781c9", func := "crucible/cruciblelaw07.GraphIs", spec := "graphIs", recurses := true, apart := false }
def GraphIsSaid : Prop := graphIsRow.holds Try.pinned (OpenSpec.ofChange graphIsSpec)

/-- ITS FALSE NEIGHBOUR: 'it returns false'. Refute it at one input. -/
def graphIsWrong : ChangeSpec := { name := "graphIs", fn := fun _ => fun
  | [d1, d2, d3] => { results := [.lit (.bool false)], args := [d1, d2, d3] }
  | _ => none }
def GraphIsWrongFalsely : Prop := graphIsRow.holds Try.pinned (OpenSpec.ofChange graphIsWrong)

/-- 'cruciblelaw07.GraphReaches': WHATEVER THE INPUT: true; the input reads as it did. -/
def graphReachesSpec : ChangeSpec := { name := "graphReaches", fn := fun _ => fun
  | [d1, d2] => { results := [.lit (.bool true)], args := [d1, d2] }
  | _ => none }
def graphReachesRow : OpenClaim := { program := "yticpbiccgnfecaa", sum := "6e58b4067e537feda34e9be55af6eb9f60c44e039a2e0e34b83a7cf753a781c9", func := "crucible/cruciblelaw07.GraphReaches", spec := "graphReaches", recurses := true, apart := false }
def GraphReachesSaid : Prop := graphReachesRow.holds Try.pinned (OpenSpec.ofChange graphReachesSpec)

/-- ITS FALSE NEIGHBOUR: 'it returns false'. Refute it at one input. -/
def graphReachesWrong : ChangeSpec := { name := "graphReaches", fn := fun _ => fun
  | [d1, d2] => { results := [.lit (.bool false)], args := [d1, d2] }
  | _ => none }
def GraphReachesWrongFalsely : Prop := graphReachesRow.holds Try.pinned (OpenSpec.ofChange graphReachesWrong)

/-- 'cruciblelaw07.GraphOrders': WHATEVER THE INPUT: true; the input reads as it did. -/
def graphOrdersSpec : ChangeSpec := { name := "graphOrders", fn := fun _ => fun
  | [d1, d2] => { results := [.lit (.bool true)], args := [d1, d2] }
  | _ => none }
def graphOrdersRow : OpenClaim := { program := "yticpbiccgnfecaa", sum := "6e58b4067e537feda34e9be55af6eb9f60c44e039a2e0e34b83a7cf753a781c9", func := "crucible/cruciblelaw07.GraphOrders", spec := "graphOrders", recurses := true, apart := false }
def GraphOrdersSaid : Prop := graphOrdersRow.holds Try.pinned (OpenSpec.ofChange graphOrdersSpec)

/-- ITS FALSE NEIGHBOUR: 'it returns false'. Refute it at one input. -/
def graphOrdersWrong : ChangeSpec := { name := "graphOrders", fn := fun _ => fun
  | [d1, d2] => { results := [.lit (.bool false)], args := [d1, d2] }
  | _ => none }
def GraphOrdersWrongFalsely : Prop := graphOrdersRow.holds Try.pinned (OpenSpec.ofChange graphOrdersWrong)

/-- 'cruciblelaw07.GraphCycles': WHATEVER THE INPUT: true; the input reads as it did. -/
def graphCyclesSpec : ChangeSpec := { name := "graphCycles", fn := fun _ => fun
  | [d1, d2] => { results := [.lit (.bool true)], args := [d1, d2] }
  | _ => none }
def graphCyclesRow : OpenClaim := { program := "yticpbiccgnfecaa", sum := "6e58b4067e537feda34e9be55af6eb9f60c44e039a2e0e34b83a7cf753a781c9", func := "crucible/cruciblelaw07.GraphCycles", spec := "graphCycles", unfollowed := true, recurses := true, apart := false }
def GraphCyclesSaid : Prop := graphCyclesRow.holds Try.pinned (OpenSpec.ofChange graphCyclesSpec)

/-- ITS FALSE NEIGHBOUR: 'it returns false'. Refute it at one input. -/
def graphCyclesWrong : ChangeSpec := { name := "graphCycles", fn := fun _ => fun
  | [d1, d2] => { results := [.lit (.bool false)], args := [d1, d2] }
  | _ => none }
def GraphCyclesWrongFalsely : Prop := graphCyclesRow.holds Try.pinned (OpenSpec.ofChange graphCyclesWrong)

/-- 'cruciblelaw07.GraphMore': WHATEVER THE INPUT: true; the input reads as it did. -/
def graphMoreSpec : ChangeSpec := { name := "graphMore", fn := fun _ => fun
  | [d1, d2, d3] => { results := [.lit (.bool true)], args := [d1, d2, d3] }
  | _ => none }
def graphMoreRow : OpenClaim := { program := "yticpbiccgnfecaa", sum := "6e58b4067e537feda34e9be55af6eb9f60c44e039a2e0e34b83a7cf753a781c9", func := "crucible/cruciblelaw07.GraphMore", spec := "graphMore", unfollowed := true, recurses := true, apart := false }
def GraphMoreSaid : Prop := graphMoreRow.holds Try.pinned (OpenSpec.ofChange graphMoreSpec)

/-- ITS FALSE NEIGHBOUR: 'it returns false'. Refute it at one input. -/
def graphMoreWrong : ChangeSpec := { name := "graphMore", fn := fun _ => fun
  | [d1, d2, d3] => { results := [.lit (.bool false)], args := [d1, d2, d3] }
  | _ => none }
def GraphMoreWrongFalsely : Prop := graphMoreRow.holds Try.pinned (OpenSpec.ofChange graphMoreWrong)

/-- 'cruciblelaw07.GraphEither': WHATEVER THE INPUT: true; the input reads as it did. -/
def graphEitherSpec : ChangeSpec := { name := "graphEither", fn := fun _ => fun
  | [d1, d2] => { results := [.lit (.bool true)], args := [d1, d2] }
  | _ => none }
def graphEitherRow : OpenClaim := { program := "yticpbiccgnfecaa", sum := "6e58b4067e537feda34e9be55af6eb9f60c44e039a2e0e34b83a7cf753a781c9", func := "crucible/cruciblelaw07.GraphEither", spec := "graphEither", unfollowed := true, recurses := true, apart := false }
def GraphEitherSaid : Prop := graphEitherRow.holds Try.pinned (OpenSpec.ofChange graphEitherSpec)

/-- ITS FALSE NEIGHBOUR: 'it returns false'. Refute it at one input. -/
def graphEitherWrong : ChangeSpec := { name := "graphEither", fn := fun _ => fun
  | [d1, d2] => { results := [.lit (.bool false)], args := [d1, d2] }
  | _ => none }
def GraphEitherWrongFalsely : Prop := graphEitherRow.holds Try.pinned (OpenSpec.ofChange graphEitherWrong)

/-- 'cruciblelaw07.GraphTurned': WHATEVER THE INPUT: true; the input reads as it did. -/
def graphTurnedSpec : ChangeSpec := { name := "graphTurned", fn := fun _ => fun
  | [d1, d2] => { results := [.lit (.bool true)], args := [d1, d2] }
  | _ => none }
def graphTurnedRow : OpenClaim := { program := "yticpbiccgnfecaa", sum := "6e58b4067e537feda34e9be55af6eb9f60c44e039a2e0e34b83a7cf753a781c9", func := "crucible/cruciblelaw07.GraphTurned", spec := "graphTurned", unfollowed := true, recurses := true, apart := false }
def GraphTurnedSaid : Prop := graphTurnedRow.holds Try.pinned (OpenSpec.ofChange graphTurnedSpec)

/-- ITS FALSE NEIGHBOUR: 'it returns false'. Refute it at one input. -/
def graphTurnedWrong : ChangeSpec := { name := "graphTurned", fn := fun _ => fun
  | [d1, d2] => { results := [.lit (.bool false)], args := [d1, d2] }
  | _ => none }
def GraphTurnedWrongFalsely : Prop := graphTurnedRow.holds Try.pinned (OpenSpec.ofChange graphTurnedWrong)

/-- 'cruciblelaw07.GraphLines': WHATEVER THE INPUT: true; the input reads as it did. -/
def graphLinesSpec : ChangeSpec := { name := "graphLines", fn := fun _ => fun
  | [d1, d2] => { results := [.lit (.bool true)], args := [d1, d2] }
  | _ => none }
def graphLinesRow : OpenClaim := { program := "yticpbiccgnfecaa", sum := "6e58b4067e537feda34e9be55af6eb9f60c44e039a2e0e34b83a7cf753a781c9", func := "crucible/cruciblelaw07.GraphLines", spec := "graphLines", unfollowed := true, recurses := true, apart := false }
def GraphLinesSaid : Prop := graphLinesRow.holds Try.pinned (OpenSpec.ofChange graphLinesSpec)

/-- ITS FALSE NEIGHBOUR: 'it returns false'. Refute it at one input. -/
def graphLinesWrong : ChangeSpec := { name := "graphLines", fn := fun _ => fun
  | [d1, d2] => { results := [.lit (.bool false)], args := [d1, d2] }
  | _ => none }
def GraphLinesWrongFalsely : Prop := graphLinesRow.holds Try.pinned (OpenSpec.ofChange graphLinesWrong)

/- THE SECOND FORM. 'bulk': how many values and letters a reading holds, each counted each time it is reached (what is shared counts as often as it is met; a slice's spare places count too). A statement '..UptoSaid' is the law's where the arguments, and the package variables that the reading takes, are together of bulk at most 1048576: NARROWER than '..Said'. Prove '..Said' where nothing that the law and all that it calls make is longer than what came in: it says more and counts as full. Else prove '..UptoSaid'. A law counts once. -/
mutual
def uptoBulk {H : Type} : DataW H → Nat
  | .lit (.string bytes) => bytes.length + 1
  | .lit _ => 1
  | .nil => 1
  | .ptr d => uptoBulk d + 1
  | .slice elems spare => uptoBulkAll elems + uptoBulkAll spare + 1
  | .agg parts => uptoBulkAll parts + 1
  | .iface _ d => uptoBulk d + 1
  | .map entries => uptoBulkEntries entries + 1
  | .held _ => 1
def uptoBulkAll {H : Type} : List (DataW H) → Nat
  | [] => 0
  | d :: r => uptoBulk d + uptoBulkAll r
def uptoBulkEntries {H : Type} : List (Lit × DataW H) → Nat
  | [] => 0
  | x :: r => uptoBulkEntry x + uptoBulkEntries r
def uptoBulkEntry {H : Type} : Lit × DataW H → Nat
  | (.string bytes, d) => bytes.length + uptoBulk d + 1
  | (_, d) => uptoBulk d + 1
 end
def uptoSmall : (H : Type) → List (DataW H) → Bool := fun _ ds => decide (uptoBulkAll ds ≤ 1048576)
def OpenSpec.upto (s : _root_.Go.ChangeSpec) : _root_.Go.OpenSpec := { _root_.Go.OpenSpec.ofChange s with cond := some uptoSmall }

/-- 'cruciblelaw07.GraphIs', WHERE WHAT IT READS IS OF BULK AT MOST 1048576: true; the input reads as it did. -/
def graphIsUptoRow : OpenClaim := { program := "yticpbiccgnfecaa", sum := "6e58b4067e537feda34e9be55af6eb9f60c44e039a2e0e34b83a7cf753a781c9", func := "crucible/cruciblelaw07.GraphIs", spec := "graphIs", recurses := true, apart := false, narrowed := true }
def GraphIsUptoSaid : Prop := graphIsUptoRow.holds Try.pinned (OpenSpec.upto graphIsSpec)

/-- 'cruciblelaw07.GraphReaches', WHERE WHAT IT READS IS OF BULK AT MOST 1048576: true; the input reads as it did. -/
def graphReachesUptoRow : OpenClaim := { program := "yticpbiccgnfecaa", sum := "6e58b4067e537feda34e9be55af6eb9f60c44e039a2e0e34b83a7cf753a781c9", func := "crucible/cruciblelaw07.GraphReaches", spec := "graphReaches", recurses := true, apart := false, narrowed := true }
def GraphReachesUptoSaid : Prop := graphReachesUptoRow.holds Try.pinned (OpenSpec.upto graphReachesSpec)

/-- 'cruciblelaw07.GraphOrders', WHERE WHAT IT READS IS OF BULK AT MOST 1048576: true; the input reads as it did. -/
def graphOrdersUptoRow : OpenClaim := { program := "yticpbiccgnfecaa", sum := "6e58b4067e537feda34e9be55af6eb9f60c44e039a2e0e34b83a7cf753a781c9", func := "crucible/cruciblelaw07.GraphOrders", spec := "graphOrders", recurses := true, apart := false, narrowed := true }
def GraphOrdersUptoSaid : Prop := graphOrdersUptoRow.holds Try.pinned (OpenSpec.upto graphOrdersSpec)

/-- 'cruciblelaw07.GraphCycles', WHERE WHAT IT READS IS OF BULK AT MOST 1048576: true; the input reads as it did. -/
def graphCyclesUptoRow : OpenClaim := { program := "yticpbiccgnfecaa", sum := "6e58b4067e537feda34e9be55af6eb9f60c44e039a2e0e34b83a7cf753a781c9", func := "crucible/cruciblelaw07.GraphCycles", spec := "graphCycles", unfollowed := true, recurses := true, apart := false, narrowed := true }
def GraphCyclesUptoSaid : Prop := graphCyclesUptoRow.holds Try.pinned (OpenSpec.upto graphCyclesSpec)

/-- 'cruciblelaw07.GraphMore', WHERE WHAT IT READS IS OF BULK AT MOST 1048576: true; the input reads as it did. -/
def graphMoreUptoRow : OpenClaim := { program := "yticpbiccgnfecaa", sum := "6e58b4067e537feda34e9be55af6eb9f60c44e039a2e0e34b83a7cf753a781c9", func := "crucible/cruciblelaw07.GraphMore", spec := "graphMore", unfollowed := true, recurses := true, apart := false, narrowed := true }
def GraphMoreUptoSaid : Prop := graphMoreUptoRow.holds Try.pinned (OpenSpec.upto graphMoreSpec)

/-- 'cruciblelaw07.GraphEither', WHERE WHAT IT READS IS OF BULK AT MOST 1048576: true; the input reads as it did. -/
def graphEitherUptoRow : OpenClaim := { program := "yticpbiccgnfecaa", sum := "6e58b4067e537feda34e9be55af6eb9f60c44e039a2e0e34b83a7cf753a781c9", func := "crucible/cruciblelaw07.GraphEither", spec := "graphEither", unfollowed := true, recurses := true, apart := false, narrowed := true }
def GraphEitherUptoSaid : Prop := graphEitherUptoRow.holds Try.pinned (OpenSpec.upto graphEitherSpec)

/-- 'cruciblelaw07.GraphTurned', WHERE WHAT IT READS IS OF BULK AT MOST 1048576: true; the input reads as it did. -/
def graphTurnedUptoRow : OpenClaim := { program := "yticpbiccgnfecaa", sum := "6e58b4067e537feda34e9be55af6eb9f60c44e039a2e0e34b83a7cf753a781c9", func := "crucible/cruciblelaw07.GraphTurned", spec := "graphTurned", unfollowed := true, recurses := true, apart := false, narrowed := true }
def GraphTurnedUptoSaid : Prop := graphTurnedUptoRow.holds Try.pinned (OpenSpec.upto graphTurnedSpec)

/-- 'cruciblelaw07.GraphLines', WHERE WHAT IT READS IS OF BULK AT MOST 1048576: true; the input reads as it did. -/
def graphLinesUptoRow : OpenClaim := { program := "yticpbiccgnfecaa", sum := "6e58b4067e537feda34e9be55af6eb9f60c44e039a2e0e34b83a7cf753a781c9", func := "crucible/cruciblelaw07.GraphLines", spec := "graphLines", unfollowed := true, recurses := true, apart := false, narrowed := true }
def GraphLinesUptoSaid : Prop := graphLinesUptoRow.holds Try.pinned (OpenSpec.upto graphLinesSpec)

end Rows
end Go.Proofs.Yticpbiccgnfecaa
