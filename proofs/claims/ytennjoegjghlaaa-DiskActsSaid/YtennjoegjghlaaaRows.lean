/-
  No cell of these rows narrows 'for every input' (looked for: loops, veiled, ifaces, maps, wideKeys, modest, calm, conditions, laid).
  DERIVED. THE GIVEN ROWS OF THIS SEAT. 8 by the template 'for every input the law returns true; each argument reads behind the call as it read before'; 0 by the template 'total and deterministic' (their statements: YtennjoegjghlaaaTotals.lean).
  GIVEN WITH THE SEED: the statements are not yours to turn. If you find one false, say at which input.
  Laid BY PROGRAM, IN A SANDBOX (cutbox-rows.mjs): the forced cells as the released guide's own fill.sh prints them over the translation 4d0622e30417624f… (all of the seat's roots in one cut). By AI agents, Wed Nov 11 2026. No macro, syntax, notation, axiom, sorry.
-/
import Derived.Test.YtennjoegjghlaaaChecked
import GoSem.Claim
import GoSem.ClaimJoined
import GoSem.ClaimMapViews
import Derived.JoinedTies
import Derived.KernelRfl
namespace Go.Proofs.Ytennjoegjghlaaa
/- THE CELL 'sum', in the pinned program and in every row, IS THE sha256 OF THE DUMP (.gsa) THAT YtennjoegjghlaaaProg.lean LOADS. Nothing in Lean hashes anything: it is a label: what it is worth is what the hold of that sum in a sandbox is worth. -/
noncomputable def Try.pinned : Pinned := { name := "ytennjoegjghlaaa", sum := "4d0622e30417624fbee109035b4132c0e8971f458b428df3b958009ee8550801", checked := Try.checked }
namespace Rows
def none {H : Type} : Left H := { results := [], args := [] }

/-- 'cruciblelaw06.BookSizes': WHATEVER THE INPUT: true; the input reads as it did. -/
def bookSizesSpec : ChangeSpec := { name := "bookSizes", fn := fun _ => fun
  | [d1, d2] => { results := [.lit (.bool true)], args := [d1, d2] }
  | _ => none }
def bookSizesRow : OpenClaim := { program := "ytennjoegjghlaaa", sum := "4d0622e30417624fbee109035b4132c0e8971f458b428df3b958009ee8550801", func := "crucible/cruciblelaw06.BookSizes", spec := "bookSizes", apart := false }
def BookSizesSaid : Prop := bookSizesRow.holds Try.pinned (OpenSpec.ofChange bookSizesSpec)

/-- ITS FALSE NEIGHBOUR: 'it returns false'. Refute it at one input. -/
def bookSizesWrong : ChangeSpec := { name := "bookSizes", fn := fun _ => fun
  | [d1, d2] => { results := [.lit (.bool false)], args := [d1, d2] }
  | _ => none }
def BookSizesWrongFalsely : Prop := bookSizesRow.holds Try.pinned (OpenSpec.ofChange bookSizesWrong)

/-- 'cruciblelaw16.DiskSure': WHATEVER THE INPUT: true; the input reads as it did. -/
def diskSureSpec : ChangeSpec := { name := "diskSure", fn := fun _ => fun
  | [d1, d2, d3, d4, d5] => { results := [.lit (.bool true)], args := [d1, d2, d3, d4, d5] }
  | _ => none }
def diskSureRow : OpenClaim := { program := "ytennjoegjghlaaa", sum := "4d0622e30417624fbee109035b4132c0e8971f458b428df3b958009ee8550801", func := "crucible/cruciblelaw16.DiskSure", spec := "diskSure", apart := false }
def DiskSureSaid : Prop := diskSureRow.holds Try.pinned (OpenSpec.ofChange diskSureSpec)

/-- ITS FALSE NEIGHBOUR: 'it returns false'. Refute it at one input. -/
def diskSureWrong : ChangeSpec := { name := "diskSure", fn := fun _ => fun
  | [d1, d2, d3, d4, d5] => { results := [.lit (.bool false)], args := [d1, d2, d3, d4, d5] }
  | _ => none }
def DiskSureWrongFalsely : Prop := diskSureRow.holds Try.pinned (OpenSpec.ofChange diskSureWrong)

/-- 'cruciblelaw16.DiskRoom': WHATEVER THE INPUT: true; the input reads as it did. -/
def diskRoomSpec : ChangeSpec := { name := "diskRoom", fn := fun _ => fun
  | [d1, d2] => { results := [.lit (.bool true)], args := [d1, d2] }
  | _ => none }
def diskRoomRow : OpenClaim := { program := "ytennjoegjghlaaa", sum := "4d0622e30417624fbee109035b4132c0e8971f458b428df3b958009ee8550801", func := "crucible/cruciblelaw16.DiskRoom", spec := "diskRoom", apart := false }
def DiskRoomSaid : Prop := diskRoomRow.holds Try.pinned (OpenSpec.ofChange diskRoomSpec)

/-- ITS FALSE NEIGHBOUR: 'it returns false'. Refute it at one input. -/
def diskRoomWrong : ChangeSpec := { name := "diskRoom", fn := fun _ => fun
  | [d1, d2] => { results := [.lit (.bool false)], args := [d1, d2] }
  | _ => none }
def DiskRoomWrongFalsely : Prop := diskRoomRow.holds Try.pinned (OpenSpec.ofChange diskRoomWrong)

/-- 'cruciblelaw16.DiskApart': WHATEVER THE INPUT: true; the input reads as it did. -/
def diskApartSpec : ChangeSpec := { name := "diskApart", fn := fun _ => fun
  | [d] => { results := [.lit (.bool true)], args := [d] }
  | _ => none }
def diskApartRow : OpenClaim := { program := "ytennjoegjghlaaa", sum := "4d0622e30417624fbee109035b4132c0e8971f458b428df3b958009ee8550801", func := "crucible/cruciblelaw16.DiskApart", spec := "diskApart", apart := false }
def DiskApartSaid : Prop := diskApartRow.holds Try.pinned (OpenSpec.ofChange diskApartSpec)

/-- ITS FALSE NEIGHBOUR: 'it returns false'. Refute it at one input. -/
def diskApartWrong : ChangeSpec := { name := "diskApart", fn := fun _ => fun
  | [d] => { results := [.lit (.bool false)], args := [d] }
  | _ => none }
def DiskApartWrongFalsely : Prop := diskApartRow.holds Try.pinned (OpenSpec.ofChange diskApartWrong)

/-- 'cruciblelaw16.DiskActs': WHATEVER THE INPUT: true; the input reads as it did. -/
def diskActsSpec : ChangeSpec := { name := "diskActs", fn := fun _ => fun
  | [d1, d2] => { results := [.lit (.bool true)], args := [d1, d2] }
  | _ => none }
def diskActsRow : OpenClaim := { program := "ytennjoegjghlaaa", sum := "4d0622e30417624fbee109035b4132c0e8971f458b428df3b958009ee8550801", func := "crucible/cruciblelaw16.DiskActs", spec := "diskActs", apart := false }
def DiskActsSaid : Prop := diskActsRow.holds Try.pinned (OpenSpec.ofChange diskActsSpec)

/-- ITS FALSE NEIGHBOUR: 'it returns false'. Refute it at one input. -/
def diskActsWrong : ChangeSpec := { name := "diskActs", fn := fun _ => fun
  | [d1, d2] => { results := [.lit (.bool false)], args := [d1, d2] }
  | _ => none }
def DiskActsWrongFalsely : Prop := diskActsRow.holds Try.pinned (OpenSpec.ofChange diskActsWrong)

/-- 'cruciblelaw06.BookWrites': WHATEVER THE INPUT: true; the input reads as it did. -/
def bookWritesSpec : ChangeSpec := { name := "bookWrites", fn := fun _ => fun
  | [d] => { results := [.lit (.bool true)], args := [d] }
  | _ => none }
def bookWritesRow : OpenClaim := { program := "ytennjoegjghlaaa", sum := "4d0622e30417624fbee109035b4132c0e8971f458b428df3b958009ee8550801", func := "crucible/cruciblelaw06.BookWrites", spec := "bookWrites", apart := false }
def BookWritesSaid : Prop := bookWritesRow.holds Try.pinned (OpenSpec.ofChange bookWritesSpec)

/-- ITS FALSE NEIGHBOUR: 'it returns false'. Refute it at one input. -/
def bookWritesWrong : ChangeSpec := { name := "bookWrites", fn := fun _ => fun
  | [d] => { results := [.lit (.bool false)], args := [d] }
  | _ => none }
def BookWritesWrongFalsely : Prop := bookWritesRow.holds Try.pinned (OpenSpec.ofChange bookWritesWrong)

/-- 'cruciblelaw06.BookReads': WHATEVER THE INPUT: true; the input reads as it did. -/
def bookReadsSpec : ChangeSpec := { name := "bookReads", fn := fun _ => fun
  | [d] => { results := [.lit (.bool true)], args := [d] }
  | _ => none }
def bookReadsRow : OpenClaim := { program := "ytennjoegjghlaaa", sum := "4d0622e30417624fbee109035b4132c0e8971f458b428df3b958009ee8550801", func := "crucible/cruciblelaw06.BookReads", spec := "bookReads", apart := false }
def BookReadsSaid : Prop := bookReadsRow.holds Try.pinned (OpenSpec.ofChange bookReadsSpec)

/-- ITS FALSE NEIGHBOUR: 'it returns false'. Refute it at one input. -/
def bookReadsWrong : ChangeSpec := { name := "bookReads", fn := fun _ => fun
  | [d] => { results := [.lit (.bool false)], args := [d] }
  | _ => none }
def BookReadsWrongFalsely : Prop := bookReadsRow.holds Try.pinned (OpenSpec.ofChange bookReadsWrong)

/-- 'cruciblelaw06.BookForm': WHATEVER THE INPUT: true; the input reads as it did. -/
def bookFormSpec : ChangeSpec := { name := "bookForm", fn := fun _ => fun
  | [d1, d2, d3] => { results := [.lit (.bool true)], args := [d1, d2, d3] }
  | _ => none }
def bookFormRow : OpenClaim := { program := "ytennjoegjghlaaa", sum := "4d0622e30417624fbee109035b4132c0e8971f458b428df3b958009ee8550801", func := "crucible/cruciblelaw06.BookForm", spec := "bookForm", apart := false }
def BookFormSaid : Prop := bookFormRow.holds Try.pinned (OpenSpec.ofChange bookFormSpec)

/-- ITS FALSE NEIGHBOUR: 'it returns false'. Refute it at one input. -/
def bookFormWrong : ChangeSpec := { name := "bookForm", fn := fun _ => fun
  | [d1, d2, d3] => { results := [.lit (.bool false)], args := [d1, d2, d3] }
  | _ => none }
def BookFormWrongFalsely : Prop := bookFormRow.holds Try.pinned (OpenSpec.ofChange bookFormWrong)

/- THE SECOND FORM. 'bulk': how many values and letters a reading holds, each counted each time it is reached (what is shared counts as often as it is met; a slice's spare places count too). A statement '..UptoSaid' is the law's where the arguments, and the package variables that the reading takes, are together of bulk at most 1048576: NARROWER than '..Said'. Prove '..Said' where nothing that the law and all that it calls make is longer than what came in: it says more and counts as full. Else prove '..UptoSaid'. A law counts once. -/
mutual
def uptoBulk {H : Type} : DataW H → Nat
  | .lit (.string bytes) => bytes.length + 1
  | .lit _ => 1
  | .nil => 1
  | .ptr d => uptoBulk d + 1
  | .slice elems spare => uptoBulkAll elems + uptoBulkAll spare + 1
  | .agg parts => uptoBulkAll parts + 1
  | .iface _ d => uptoBulk d + 1
  | .map entries => uptoBulkEntries entries + 1
  | .held _ => 1
def uptoBulkAll {H : Type} : List (DataW H) → Nat
  | [] => 0
  | d :: r => uptoBulk d + uptoBulkAll r
def uptoBulkEntries {H : Type} : List (Lit × DataW H) → Nat
  | [] => 0
  | x :: r => uptoBulkEntry x + uptoBulkEntries r
def uptoBulkEntry {H : Type} : Lit × DataW H → Nat
  | (.string bytes, d) => bytes.length + uptoBulk d + 1
  | (_, d) => uptoBulk d + 1
 end
def uptoSmall : (H : Type) → List (DataW H) → Bool := fun _ ds => decide (uptoBulkAll ds ≤ 1048576)
def OpenSpec.upto (s : _root_.Go.ChangeSpec) : _root_.Go.OpenSpec := { _root_.Go.OpenSpec.ofChange s with cond := some uptoSmall }

/-- 'cruciblelaw06.BookSizes', WHERE WHAT IT READS IS OF BULK AT MOST 1048576: true; the input reads as it did. -/
def bookSizesUptoRow : OpenClaim := { program := "ytennjoegjghlaaa", sum := "4d0622e30417624fbee109035b4132c0e8971f458b428df3b958009ee8550801", func := "crucible/cruciblelaw06.BookSizes", spec := "bookSizes", apart := false, narrowed := true }
def BookSizesUptoSaid : Prop := bookSizesUptoRow.holds Try.pinned (OpenSpec.upto bookSizesSpec)

/-- 'cruciblelaw16.DiskSure', WHERE WHAT IT READS IS OF BULK AT MOST 1048576: true; the input reads as it did. -/
def diskSureUptoRow : OpenClaim := { program := "ytennjoegjghlaaa", sum := "4d0622e30417624fbee109035b4132c0e8971f458b428df3b958009ee8550801", func := "crucible/cruciblelaw16.DiskSure", spec := "diskSure", apart := false, narrowed := true }
def DiskSureUptoSaid : Prop := diskSureUptoRow.holds Try.pinned (OpenSpec.upto diskSureSpec)

/-- 'cruciblelaw16.DiskRoom', WHERE WHAT IT READS IS OF BULK AT MOST 1048576: true; the input reads as it did. -/
def diskRoomUptoRow : OpenClaim := { program := "ytennjoegjghlaaa", sum := "4d0622e30417624fbee109035b4132c0e8971f458b428df3b958009ee8550801", func := "crucible/cruciblelaw16.DiskRoom", spec := "diskRoom", apart := false, narrowed := true }
def DiskRoomUptoSaid : Prop := diskRoomUptoRow.holds Try.pinned (OpenSpec.upto diskRoomSpec)

/-- 'cruciblelaw16.DiskApart', WHERE WHAT IT READS IS OF BULK AT MOST 1048576: true; the input reads as it did. -/
def diskApartUptoRow : OpenClaim := { program := "ytennjoegjghlaaa", sum := "4d0622e30417624fbee109035b4132c0e8971f458b428df3b958009ee8550801", func := "crucible/cruciblelaw16.DiskApart", spec := "diskApart", apart := false, narrowed := true }
def DiskApartUptoSaid : Prop := diskApartUptoRow.holds Try.pinned (OpenSpec.upto diskApartSpec)

/-- 'cruciblelaw16.DiskActs', WHERE WHAT IT READS IS OF BULK AT MOST 1048576: true; the input reads as it did. -/
def diskActsUptoRow : OpenClaim := { program := "ytennjoegjghlaaa", sum := "4d0622e30417624fbee109035b4132c0e8971f458b428df3b958009ee8550801", func := "crucible/cruciblelaw16.DiskActs", spec := "diskActs", apart := false, narrowed := true }
def DiskActsUptoSaid : Prop := diskActsUptoRow.holds Try.pinned (OpenSpec.upto diskActsSpec)

/-- 'cruciblelaw06.BookWrites', WHERE WHAT IT READS IS OF BULK AT MOST 1048576: true; the input reads as it did. -/
def bookWritesUptoRow : OpenClaim := { program := "ytennjoegjghlaaa", sum := "4d0622e30417624fbee109035b4132c0e8971f458b428df3b958009ee8550801", func := "crucible/cruciblelaw06.BookWrites", spec := "bookWrites", apart := false, narrowed := true }
def BookWritesUptoSaid : Prop := bookWritesUptoRow.holds Try.pinned (OpenSpec.upto bookWritesSpec)

/-- 'cruciblelaw06.BookReads', WHERE WHAT IT READS IS OF BULK AT MOST 1048576: true; the input reads as it did. -/
def bookReadsUptoRow : OpenClaim := { program := "ytennjoegjghlaaa", sum := "4d0622e30417624fbee109035b4132c0e8971f458b428df3b958009ee8550801", func := "crucible/cruciblelaw06.BookReads", spec := "bookReads", apart := false, narrowed := true }
def BookReadsUptoSaid : Prop := bookReadsUptoRow.holds Try.pinned (OpenSpec.upto bookReadsSpec)

/-- 'cruciblelaw06.BookForm', WHERE WHAT IT READS IS OF BULK AT MOST 1048576: true; the input reads as it did. -/
def bookFormUptoRow : OpenClaim := { program := "ytennjoegjghlaaa", sum := "4d0622e30417624fbee109035b4132c0e8971f458b428df3b958009ee8550801", func := "crucible/cruciblelaw06.BookForm", spec := "bookForm", apart := false, narrowed := true }
def BookFormUptoSaid : Prop := bookFormUptoRow.holds Try.pinned (OpenSpec.upto bookFormSpec)

end Rows
end Go.Proofs.Ytennjoegjghlaaa
