/-
  No cell of these rows narrows 'for every input' (looked for: loops, veiled, ifaces, maps, wideKeys, modest, calm, conditions, laid).
  DERIVED. THE GIVEN ROWS OF THIS SEAT. 12 by the template 'for every input the law returns true; each argument reads behind the call as it read before'; 0 by the template 'total and deterministic' (their statements: YtmmgnbdngpkfcaaTotals.lean).
  GIVEN WITH THE SEED: the statements are not yours to turn. If you find one false, say at which input.
  Laid BY PROGRAM, IN A SANDBOX (cutbox-rows.mjs): the forced cells as the released guide's own fill.sh prints them over the translation b2324b490bb3e1dc… (all of the seat's roots in one cut). By AI agents, Wed Nov 11 2026. No macro, syntax, notation, axiom, sorry.
-/
import Derived.Test.YtmmgnbdngpkfcaaChecked
import GoSem.Claim
import GoSem.ClaimJoined
import GoSem.ClaimMapViews
import Derived.JoinedTies
import Derived.KernelRfl
namespace Go.Proofs.Ytmmgnbdngpkfcaa
/- THE CELL 'sum', in the pinned program and in every row, IS THE sha256 OF THE DUMP (.gsa) THAT YtmmgnbdngpkfcaaProg.lean LOADS. Nothing in Lean hashes anything: it is a label: what it is worth is what the hold of that sum in a sandbox is worth. -/
noncomputable def Try.pinned : Pinned := { name := "ytmmgnbdngpkfcaa", sum := "b2324b490bb3e1dcd302bd3de197b5b693894559f1acda2da8e04d2f6832b796", checked := Try.checked }
namespace Rows
def none {H : Type} : Left H := { results := [], args := [] }

/-- 'cruciblelaw22.CoordFails': WHATEVER THE INPUT: true; the input reads as it did. -/
def coordFailsSpec : ChangeSpec := { name := "coordFails", fn := fun _ => fun
  | [d1, d2, d3, d4, d5] => { results := [.lit (.bool true)], args := [d1, d2, d3, d4, d5] }
  | _ => none }
def coordFailsRow : OpenClaim := { program := "ytmmgnbdngpkfcaa", sum := "b2324b490bb3e1dcd302bd3de197b5b693894559f1acda2da8e04d2f6832b796", func := "crucible/cruciblelaw22.CoordFails", spec := "coordFails", unfollowed := true, recurses := true, apart := false }
def CoordFailsSaid : Prop := coordFailsRow.holds Try.pinned (OpenSpec.ofChange coordFailsSpec)

/-- ITS FALSE NEIGHBOUR: 'it returns false'. Refute it at one input. -/
def coordFailsWrong : ChangeSpec := { name := "coordFails", fn := fun _ => fun
  | [d1, d2, d3, d4, d5] => { results := [.lit (.bool false)], args := [d1, d2, d3, d4, d5] }
  | _ => none }
def CoordFailsWrongFalsely : Prop := coordFailsRow.holds Try.pinned (OpenSpec.ofChange coordFailsWrong)

/-- 'cruciblelaw22.CoordWaits': WHATEVER THE INPUT: true; the input reads as it did. -/
def coordWaitsSpec : ChangeSpec := { name := "coordWaits", fn := fun _ => fun
  | [d1, d2, d3, d4] => { results := [.lit (.bool true)], args := [d1, d2, d3, d4] }
  | _ => none }
def coordWaitsRow : OpenClaim := { program := "ytmmgnbdngpkfcaa", sum := "b2324b490bb3e1dcd302bd3de197b5b693894559f1acda2da8e04d2f6832b796", func := "crucible/cruciblelaw22.CoordWaits", spec := "coordWaits", unfollowed := true, recurses := true, apart := false }
def CoordWaitsSaid : Prop := coordWaitsRow.holds Try.pinned (OpenSpec.ofChange coordWaitsSpec)

/-- ITS FALSE NEIGHBOUR: 'it returns false'. Refute it at one input. -/
def coordWaitsWrong : ChangeSpec := { name := "coordWaits", fn := fun _ => fun
  | [d1, d2, d3, d4] => { results := [.lit (.bool false)], args := [d1, d2, d3, d4] }
  | _ => none }
def CoordWaitsWrongFalsely : Prop := coordWaitsRow.holds Try.pinned (OpenSpec.ofChange coordWaitsWrong)

/-- 'cruciblelaw17.WalLoads': WHATEVER THE INPUT: true; the input reads as it did. -/
def walLoadsSpec : ChangeSpec := { name := "walLoads", fn := fun _ => fun
  | [d1, d2, d3, d4, d5, d6, d7, d8] => { results := [.lit (.bool true)], args := [d1, d2, d3, d4, d5, d6, d7, d8] }
  | _ => none }
def walLoadsRow : OpenClaim := { program := "ytmmgnbdngpkfcaa", sum := "b2324b490bb3e1dcd302bd3de197b5b693894559f1acda2da8e04d2f6832b796", func := "crucible/cruciblelaw17.WalLoads", spec := "walLoads", unfollowed := true, recurses := true, apart := false }
def WalLoadsSaid : Prop := walLoadsRow.holds Try.pinned (OpenSpec.ofChange walLoadsSpec)

/-- ITS FALSE NEIGHBOUR: 'it returns false'. Refute it at one input. -/
def walLoadsWrong : ChangeSpec := { name := "walLoads", fn := fun _ => fun
  | [d1, d2, d3, d4, d5, d6, d7, d8] => { results := [.lit (.bool false)], args := [d1, d2, d3, d4, d5, d6, d7, d8] }
  | _ => none }
def WalLoadsWrongFalsely : Prop := walLoadsRow.holds Try.pinned (OpenSpec.ofChange walLoadsWrong)

/-- 'cruciblelaw17.WalTurns': WHATEVER THE INPUT: true; the input reads as it did. -/
def walTurnsSpec : ChangeSpec := { name := "walTurns", fn := fun _ => fun
  | [d1, d2] => { results := [.lit (.bool true)], args := [d1, d2] }
  | _ => none }
def walTurnsRow : OpenClaim := { program := "ytmmgnbdngpkfcaa", sum := "b2324b490bb3e1dcd302bd3de197b5b693894559f1acda2da8e04d2f6832b796", func := "crucible/cruciblelaw17.WalTurns", spec := "walTurns", unfollowed := true, recurses := true, apart := false }
def WalTurnsSaid : Prop := walTurnsRow.holds Try.pinned (OpenSpec.ofChange walTurnsSpec)

/-- ITS FALSE NEIGHBOUR: 'it returns false'. Refute it at one input. -/
def walTurnsWrong : ChangeSpec := { name := "walTurns", fn := fun _ => fun
  | [d1, d2] => { results := [.lit (.bool false)], args := [d1, d2] }
  | _ => none }
def WalTurnsWrongFalsely : Prop := walTurnsRow.holds Try.pinned (OpenSpec.ofChange walTurnsWrong)

/-- 'cruciblelaw17.WalTorn': WHATEVER THE INPUT: true; the input reads as it did. -/
def walTornSpec : ChangeSpec := { name := "walTorn", fn := fun _ => fun
  | [d1, d2, d3] => { results := [.lit (.bool true)], args := [d1, d2, d3] }
  | _ => none }
def walTornRow : OpenClaim := { program := "ytmmgnbdngpkfcaa", sum := "b2324b490bb3e1dcd302bd3de197b5b693894559f1acda2da8e04d2f6832b796", func := "crucible/cruciblelaw17.WalTorn", spec := "walTorn", unfollowed := true, recurses := true, apart := false }
def WalTornSaid : Prop := walTornRow.holds Try.pinned (OpenSpec.ofChange walTornSpec)

/-- ITS FALSE NEIGHBOUR: 'it returns false'. Refute it at one input. -/
def walTornWrong : ChangeSpec := { name := "walTorn", fn := fun _ => fun
  | [d1, d2, d3] => { results := [.lit (.bool false)], args := [d1, d2, d3] }
  | _ => none }
def WalTornWrongFalsely : Prop := walTornRow.holds Try.pinned (OpenSpec.ofChange walTornWrong)

/-- 'cruciblelaw17.WalNothing': WHATEVER THE INPUT: true; the input reads as it did. -/
def walNothingSpec : ChangeSpec := { name := "walNothing", fn := fun _ => fun
  | [d1, d2] => { results := [.lit (.bool true)], args := [d1, d2] }
  | _ => none }
def walNothingRow : OpenClaim := { program := "ytmmgnbdngpkfcaa", sum := "b2324b490bb3e1dcd302bd3de197b5b693894559f1acda2da8e04d2f6832b796", func := "crucible/cruciblelaw17.WalNothing", spec := "walNothing", unfollowed := true, recurses := true, apart := false }
def WalNothingSaid : Prop := walNothingRow.holds Try.pinned (OpenSpec.ofChange walNothingSpec)

/-- ITS FALSE NEIGHBOUR: 'it returns false'. Refute it at one input. -/
def walNothingWrong : ChangeSpec := { name := "walNothing", fn := fun _ => fun
  | [d1, d2] => { results := [.lit (.bool false)], args := [d1, d2] }
  | _ => none }
def WalNothingWrongFalsely : Prop := walNothingRow.holds Try.pinned (OpenSpec.ofChange walNothingWrong)

/-- 'cruciblelaw17.WalKeeps': WHATEVER THE INPUT: true; the input reads as it did. -/
def walKeepsSpec : ChangeSpec := { name := "walKeeps", fn := fun _ => fun
  | [d1, d2] => { results := [.lit (.bool true)], args := [d1, d2] }
  | _ => none }
def walKeepsRow : OpenClaim := { program := "ytmmgnbdngpkfcaa", sum := "b2324b490bb3e1dcd302bd3de197b5b693894559f1acda2da8e04d2f6832b796", func := "crucible/cruciblelaw17.WalKeeps", spec := "walKeeps", unfollowed := true, recurses := true, apart := false }
def WalKeepsSaid : Prop := walKeepsRow.holds Try.pinned (OpenSpec.ofChange walKeepsSpec)

/-- ITS FALSE NEIGHBOUR: 'it returns false'. Refute it at one input. -/
def walKeepsWrong : ChangeSpec := { name := "walKeeps", fn := fun _ => fun
  | [d1, d2] => { results := [.lit (.bool false)], args := [d1, d2] }
  | _ => none }
def WalKeepsWrongFalsely : Prop := walKeepsRow.holds Try.pinned (OpenSpec.ofChange walKeepsWrong)

/-- 'cruciblelaw22.CoordPosts': WHATEVER THE INPUT: true; the input reads as it did. -/
def coordPostsSpec : ChangeSpec := { name := "coordPosts", fn := fun _ => fun
  | [d1, d2, d3, d4, d5] => { results := [.lit (.bool true)], args := [d1, d2, d3, d4, d5] }
  | _ => none }
def coordPostsRow : OpenClaim := { program := "ytmmgnbdngpkfcaa", sum := "b2324b490bb3e1dcd302bd3de197b5b693894559f1acda2da8e04d2f6832b796", func := "crucible/cruciblelaw22.CoordPosts", spec := "coordPosts", unfollowed := true, recurses := true, apart := false }
def CoordPostsSaid : Prop := coordPostsRow.holds Try.pinned (OpenSpec.ofChange coordPostsSpec)

/-- ITS FALSE NEIGHBOUR: 'it returns false'. Refute it at one input. -/
def coordPostsWrong : ChangeSpec := { name := "coordPosts", fn := fun _ => fun
  | [d1, d2, d3, d4, d5] => { results := [.lit (.bool false)], args := [d1, d2, d3, d4, d5] }
  | _ => none }
def CoordPostsWrongFalsely : Prop := coordPostsRow.holds Try.pinned (OpenSpec.ofChange coordPostsWrong)

/-- 'cruciblelaw20.ViewLays': WHATEVER THE INPUT: true; the input reads as it did. -/
def viewLaysSpec : ChangeSpec := { name := "viewLays", fn := fun _ => fun
  | [d1, d2] => { results := [.lit (.bool true)], args := [d1, d2] }
  | _ => none }
def viewLaysRow : OpenClaim := { program := "ytmmgnbdngpkfcaa", sum := "b2324b490bb3e1dcd302bd3de197b5b693894559f1acda2da8e04d2f6832b796", func := "crucible/cruciblelaw20.ViewLays", spec := "viewLays", recurses := true, apart := false }
def ViewLaysSaid : Prop := viewLaysRow.holds Try.pinned (OpenSpec.ofChange viewLaysSpec)

/-- ITS FALSE NEIGHBOUR: 'it returns false'. Refute it at one input. -/
def viewLaysWrong : ChangeSpec := { name := "viewLays", fn := fun _ => fun
  | [d1, d2] => { results := [.lit (.bool false)], args := [d1, d2] }
  | _ => none }
def ViewLaysWrongFalsely : Prop := viewLaysRow.holds Try.pinned (OpenSpec.ofChange viewLaysWrong)

/-- 'cruciblelaw20.ViewAlone': WHATEVER THE INPUT: true; the input reads as it did. -/
def viewAloneSpec : ChangeSpec := { name := "viewAlone", fn := fun _ => fun
  | [d1, d2] => { results := [.lit (.bool true)], args := [d1, d2] }
  | _ => none }
def viewAloneRow : OpenClaim := { program := "ytmmgnbdngpkfcaa", sum := "b2324b490bb3e1dcd302bd3de197b5b693894559f1acda2da8e04d2f6832b796", func := "crucible/cruciblelaw20.ViewAlone", spec := "viewAlone", recurses := true, apart := false }
def ViewAloneSaid : Prop := viewAloneRow.holds Try.pinned (OpenSpec.ofChange viewAloneSpec)

/-- ITS FALSE NEIGHBOUR: 'it returns false'. Refute it at one input. -/
def viewAloneWrong : ChangeSpec := { name := "viewAlone", fn := fun _ => fun
  | [d1, d2] => { results := [.lit (.bool false)], args := [d1, d2] }
  | _ => none }
def ViewAloneWrongFalsely : Prop := viewAloneRow.holds Try.pinned (OpenSpec.ofChange viewAloneWrong)

/-- 'cruciblelaw20.ViewSafe': WHATEVER THE INPUT: true; the input reads as it did. -/
def viewSafeSpec : ChangeSpec := { name := "viewSafe", fn := fun _ => fun
  | [d1, d2, d3] => { results := [.lit (.bool true)], args := [d1, d2, d3] }
  | _ => none }
def viewSafeRow : OpenClaim := { program := "ytmmgnbdngpkfcaa", sum := "b2324b490bb3e1dcd302bd3de197b5b693894559f1acda2da8e04d2f6832b796", func := "crucible/cruciblelaw20.ViewSafe", spec := "viewSafe", recurses := true, apart := false }
def ViewSafeSaid : Prop := viewSafeRow.holds Try.pinned (OpenSpec.ofChange viewSafeSpec)

/-- ITS FALSE NEIGHBOUR: 'it returns false'. Refute it at one input. -/
def viewSafeWrong : ChangeSpec := { name := "viewSafe", fn := fun _ => fun
  | [d1, d2, d3] => { results := [.lit (.bool false)], args := [d1, d2, d3] }
  | _ => none }
def ViewSafeWrongFalsely : Prop := viewSafeRow.holds Try.pinned (OpenSpec.ofChange viewSafeWrong)

/-- 'cruciblelaw20.ViewGoes': WHATEVER THE INPUT: true; the input reads as it did. -/
def viewGoesSpec : ChangeSpec := { name := "viewGoes", fn := fun _ => fun
  | [d1, d2, d3, d4] => { results := [.lit (.bool true)], args := [d1, d2, d3, d4] }
  | _ => none }
def viewGoesRow : OpenClaim := { program := "ytmmgnbdngpkfcaa", sum := "b2324b490bb3e1dcd302bd3de197b5b693894559f1acda2da8e04d2f6832b796", func := "crucible/cruciblelaw20.ViewGoes", spec := "viewGoes", recurses := true, apart := false }
def ViewGoesSaid : Prop := viewGoesRow.holds Try.pinned (OpenSpec.ofChange viewGoesSpec)

/-- ITS FALSE NEIGHBOUR: 'it returns false'. Refute it at one input. -/
def viewGoesWrong : ChangeSpec := { name := "viewGoes", fn := fun _ => fun
  | [d1, d2, d3, d4] => { results := [.lit (.bool false)], args := [d1, d2, d3, d4] }
  | _ => none }
def ViewGoesWrongFalsely : Prop := viewGoesRow.holds Try.pinned (OpenSpec.ofChange viewGoesWrong)

/- THE SECOND FORM. 'bulk': how many values and letters a reading holds, each counted each time it is reached (what is shared counts as often as it is met; a slice's spare places count too). A statement '..UptoSaid' is the law's where the arguments, and the package variables that the reading takes, are together of bulk at most 1048576: NARROWER than '..Said'. Prove '..Said' where nothing that the law and all that it calls make is longer than what came in: it says more and counts as full. Else prove '..UptoSaid'. A law counts once. -/
mutual
def uptoBulk {H : Type} : DataW H → Nat
  | .lit (.string bytes) => bytes.length + 1
  | .lit _ => 1
  | .nil => 1
  | .ptr d => uptoBulk d + 1
  | .slice elems spare => uptoBulkAll elems + uptoBulkAll spare + 1
  | .agg parts => uptoBulkAll parts + 1
  | .iface _ d => uptoBulk d + 1
  | .map entries => uptoBulkEntries entries + 1
  | .held _ => 1
def uptoBulkAll {H : Type} : List (DataW H) → Nat
  | [] => 0
  | d :: r => uptoBulk d + uptoBulkAll r
def uptoBulkEntries {H : Type} : List (Lit × DataW H) → Nat
  | [] => 0
  | x :: r => uptoBulkEntry x + uptoBulkEntries r
def uptoBulkEntry {H : Type} : Lit × DataW H → Nat
  | (.string bytes, d) => bytes.length + uptoBulk d + 1
  | (_, d) => uptoBulk d + 1
 end
def uptoSmall : (H : Type) → List (DataW H) → Bool := fun _ ds => decide (uptoBulkAll ds ≤ 1048576)
def OpenSpec.upto (s : _root_.Go.ChangeSpec) : _root_.Go.OpenSpec := { _root_.Go.OpenSpec.ofChange s with cond := some uptoSmall }

/-- 'cruciblelaw22.CoordFails', WHERE WHAT IT READS IS OF BULK AT MOST 1048576: true; the input reads as it did. -/
def coordFailsUptoRow : OpenClaim := { program := "ytmmgnbdngpkfcaa", sum := "b2324b490bb3e1dcd302bd3de197b5b693894559f1acda2da8e04d2f6832b796", func := "crucible/cruciblelaw22.CoordFails", spec := "coordFails", unfollowed := true, recurses := true, apart := false, narrowed := true }
def CoordFailsUptoSaid : Prop := coordFailsUptoRow.holds Try.pinned (OpenSpec.upto coordFailsSpec)

/-- 'cruciblelaw22.CoordWaits', WHERE WHAT IT READS IS OF BULK AT MOST 1048576: true; the input reads as it did. -/
def coordWaitsUptoRow : OpenClaim := { program := "ytmmgnbdngpkfcaa", sum := "b2324b490bb3e1dcd302bd3de197b5b693894559f1acda2da8e04d2f6832b796", func := "crucible/cruciblelaw22.CoordWaits", spec := "coordWaits", unfollowed := true, recurses := true, apart := false, narrowed := true }
def CoordWaitsUptoSaid : Prop := coordWaitsUptoRow.holds Try.pinned (OpenSpec.upto coordWaitsSpec)

/-- 'cruciblelaw17.WalLoads', WHERE WHAT IT READS IS OF BULK AT MOST 1048576: true; the input reads as it did. -/
def walLoadsUptoRow : OpenClaim := { program := "ytmmgnbdngpkfcaa", sum := "b2324b490bb3e1dcd302bd3de197b5b693894559f1acda2da8e04d2f6832b796", func := "crucible/cruciblelaw17.WalLoads", spec := "walLoads", unfollowed := true, recurses := true, apart := false, narrowed := true }
def WalLoadsUptoSaid : Prop := walLoadsUptoRow.holds Try.pinned (OpenSpec.upto walLoadsSpec)

/-- 'cruciblelaw17.WalTurns', WHERE WHAT IT READS IS OF BULK AT MOST 1048576: true; the input reads as it did. -/
def walTurnsUptoRow : OpenClaim := { program := "ytmmgnbdngpkfcaa", sum := "b2324b490bb3e1dcd302bd3de197b5b693894559f1acda2da8e04d2f6832b796", func := "crucible/cruciblelaw17.WalTurns", spec := "walTurns", unfollowed := true, recurses := true, apart := false, narrowed := true }
def WalTurnsUptoSaid : Prop := walTurnsUptoRow.holds Try.pinned (OpenSpec.upto walTurnsSpec)

/-- 'cruciblelaw17.WalTorn', WHERE WHAT IT READS IS OF BULK AT MOST 1048576: true; the input reads as it did. -/
def walTornUptoRow : OpenClaim := { program := "ytmmgnbdngpkfcaa", sum := "b2324b490bb3e1dcd302bd3de197b5b693894559f1acda2da8e04d2f6832b796", func := "crucible/cruciblelaw17.WalTorn", spec := "walTorn", unfollowed := true, recurses := true, apart := false, narrowed := true }
def WalTornUptoSaid : Prop := walTornUptoRow.holds Try.pinned (OpenSpec.upto walTornSpec)

/-- 'cruciblelaw17.WalNothing', WHERE WHAT IT READS IS OF BULK AT MOST 1048576: true; the input reads as it did. -/
def walNothingUptoRow : OpenClaim := { program := "ytmmgnbdngpkfcaa", sum := "b2324b490bb3e1dcd302bd3de197b5b693894559f1acda2da8e04d2f6832b796", func := "crucible/cruciblelaw17.WalNothing", spec := "walNothing", unfollowed := true, recurses := true, apart := false, narrowed := true }
def WalNothingUptoSaid : Prop := walNothingUptoRow.holds Try.pinned (OpenSpec.upto walNothingSpec)

/-- 'cruciblelaw17.WalKeeps', WHERE WHAT IT READS IS OF BULK AT MOST 1048576: true; the input reads as it did. -/
def walKeepsUptoRow : OpenClaim := { program := "ytmmgnbdngpkfcaa", sum := "b2324b490bb3e1dcd302bd3de197b5b693894559f1acda2da8e04d2f6832b796", func := "crucible/cruciblelaw17.WalKeeps", spec := "walKeeps", unfollowed := true, recurses := true, apart := false, narrowed := true }
def WalKeepsUptoSaid : Prop := walKeepsUptoRow.holds Try.pinned (OpenSpec.upto walKeepsSpec)

/-- 'cruciblelaw22.CoordPosts', WHERE WHAT IT READS IS OF BULK AT MOST 1048576: true; the input reads as it did. -/
def coordPostsUptoRow : OpenClaim := { program := "ytmmgnbdngpkfcaa", sum := "b2324b490bb3e1dcd302bd3de197b5b693894559f1acda2da8e04d2f6832b796", func := "crucible/cruciblelaw22.CoordPosts", spec := "coordPosts", unfollowed := true, recurses := true, apart := false, narrowed := true }
def CoordPostsUptoSaid : Prop := coordPostsUptoRow.holds Try.pinned (OpenSpec.upto coordPostsSpec)

/-- 'cruciblelaw20.ViewLays', WHERE WHAT IT READS IS OF BULK AT MOST 1048576: true; the input reads as it did. -/
def viewLaysUptoRow : OpenClaim := { program := "ytmmgnbdngpkfcaa", sum := "b2324b490bb3e1dcd302bd3de197b5b693894559f1acda2da8e04d2f6832b796", func := "crucible/cruciblelaw20.ViewLays", spec := "viewLays", recurses := true, apart := false, narrowed := true }
def ViewLaysUptoSaid : Prop := viewLaysUptoRow.holds Try.pinned (OpenSpec.upto viewLaysSpec)

/-- 'cruciblelaw20.ViewAlone', WHERE WHAT IT READS IS OF BULK AT MOST 1048576: true; the input reads as it did. -/
def viewAloneUptoRow : OpenClaim := { program := "ytmmgnbdngpkfcaa", sum := "b2324b490bb3e1dcd302bd3de197b5b693894559f1acda2da8e04d2f6832b796", func := "crucible/cruciblelaw20.ViewAlone", spec := "viewAlone", recurses := true, apart := false, narrowed := true }
def ViewAloneUptoSaid : Prop := viewAloneUptoRow.holds Try.pinned (OpenSpec.upto viewAloneSpec)

/-- 'cruciblelaw20.ViewSafe', WHERE WHAT IT READS IS OF BULK AT MOST 1048576: true; the input reads as it did. -/
def viewSafeUptoRow : OpenClaim := { program := "ytmmgnbdngpkfcaa", sum := "b2324b490bb3e1dcd302bd3de197b5b693894559f1acda2da8e04d2f6832b796", func := "crucible/cruciblelaw20.ViewSafe", spec := "viewSafe", recurses := true, apart := false, narrowed := true }
def ViewSafeUptoSaid : Prop := viewSafeUptoRow.holds Try.pinned (OpenSpec.upto viewSafeSpec)

/-- 'cruciblelaw20.ViewGoes', WHERE WHAT IT READS IS OF BULK AT MOST 1048576: true; the input reads as it did. -/
def viewGoesUptoRow : OpenClaim := { program := "ytmmgnbdngpkfcaa", sum := "b2324b490bb3e1dcd302bd3de197b5b693894559f1acda2da8e04d2f6832b796", func := "crucible/cruciblelaw20.ViewGoes", spec := "viewGoes", recurses := true, apart := false, narrowed := true }
def ViewGoesUptoSaid : Prop := viewGoesUptoRow.holds Try.pinned (OpenSpec.upto viewGoesSpec)

end Rows
end Go.Proofs.Ytmmgnbdngpkfcaa
