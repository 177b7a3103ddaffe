/-
  NARROWER THAN 'FOR EVERY INPUT', by the rows' own cells (each row's printed sentence says how): ItemBack: loops · ItemWrites: loops · ItemAnys: loops · ItemLists: loops · ItemSame: loops · ItemAt: loops.
  DERIVED. THE GIVEN ROWS OF THIS SEAT. 9 by the template 'for every input the law returns true; each argument reads behind the call as it read before'; 0 by the template 'total and deterministic' (their statements: YtkmikpmbnfcbpaaTotals.lean).
  GIVEN WITH THE SEED: the statements are not yours to turn. If you find one false, say at which input.
  Laid BY PROGRAM, IN A SANDBOX (cutbox-rows.mjs): the forced cells as the released guide's own fill.sh prints them over the translation f7cbe35311d1249e… (all of the seat's roots in one cut). By AI agents, Wed Nov 11 2026. No macro, syntax, notation, axiom, sorry.
-/
import Derived.Test.YtkmikpmbnfcbpaaChecked
import GoSem.Claim
import GoSem.ClaimJoined
import GoSem.ClaimMapViews
import Derived.JoinedTies
import Derived.KernelRfl
namespace Go.Proofs.Ytkmikpmbnfcbpaa
/- THE CELL 'sum', in the pinned program and in every row, IS THE sha256 OF THE DUMP (.gsa) THAT YtkmikpmbnfcbpaaProg.lean LOADS. Nothing in Lean hashes anything: it is a label: what it is worth is what the hold of that sum in a sandbox is worth. -/
noncomputable def Try.pinned : Pinned := { name := "ytkmikpmbnfcbpaa", sum := "f7cbe35311d1249e185e0cbd4ba8968fc872bfb4a2210f27ded3ebe5d9ea9ee2", checked := Try.checked }
namespace Rows
def none {H : Type} : Left H := { results := [], args := [] }

/-- 'timekeeperlaw03.ItemReads': WHATEVER THE INPUT: true; the input reads as it did. -/
def itemReadsSpec : ChangeSpec := { name := "itemReads", fn := fun _ => fun
  | [d] => { results := [.lit (.bool true)], args := [d] }
  | _ => none }
def itemReadsRow : OpenClaim := { program := "ytkmikpmbnfcbpaa", sum := "f7cbe35311d1249e185e0cbd4ba8968fc872bfb4a2210f27ded3ebe5d9ea9ee2", func := "timekeeper/timekeeperlaw03.ItemReads", spec := "itemReads", unfollowed := true, recurses := true, apart := false }
def ItemReadsSaid : Prop := itemReadsRow.holds Try.pinned (OpenSpec.ofChange itemReadsSpec)

/-- ITS FALSE NEIGHBOUR: 'it returns false'. Refute it at one input. -/
def itemReadsWrong : ChangeSpec := { name := "itemReads", fn := fun _ => fun
  | [d] => { results := [.lit (.bool false)], args := [d] }
  | _ => none }
def ItemReadsWrongFalsely : Prop := itemReadsRow.holds Try.pinned (OpenSpec.ofChange itemReadsWrong)

/-- 'timekeeperlaw03.ItemBack': WHATEVER THE INPUT: true; the input reads as it did. -/
def itemBackSpec : ChangeSpec := { name := "itemBack", fn := fun _ => fun
  | [d1, d2, d3, d4] => { results := [.lit (.bool true)], args := [d1, d2, d3, d4] }
  | _ => none }
def itemBackRow : OpenClaim := { program := "ytkmikpmbnfcbpaa", sum := "f7cbe35311d1249e185e0cbd4ba8968fc872bfb4a2210f27ded3ebe5d9ea9ee2", func := "timekeeper/timekeeperlaw03.ItemBack", spec := "itemBack", unfollowed := true, recurses := true, loops := true, apart := false }
def ItemBackSaid : Prop := itemBackRow.holds Try.pinned (OpenSpec.ofChange itemBackSpec)

/-- ITS FALSE NEIGHBOUR: 'it returns false'. Refute it at one input. -/
def itemBackWrong : ChangeSpec := { name := "itemBack", fn := fun _ => fun
  | [d1, d2, d3, d4] => { results := [.lit (.bool false)], args := [d1, d2, d3, d4] }
  | _ => none }
def ItemBackWrongFalsely : Prop := itemBackRow.holds Try.pinned (OpenSpec.ofChange itemBackWrong)

/-- 'timekeeperlaw03.ItemWrites': WHATEVER THE INPUT: true; the input reads as it did. -/
def itemWritesSpec : ChangeSpec := { name := "itemWrites", fn := fun _ => fun
  | [d] => { results := [.lit (.bool true)], args := [d] }
  | _ => none }
def itemWritesRow : OpenClaim := { program := "ytkmikpmbnfcbpaa", sum := "f7cbe35311d1249e185e0cbd4ba8968fc872bfb4a2210f27ded3ebe5d9ea9ee2", func := "timekeeper/timekeeperlaw03.ItemWrites", spec := "itemWrites", unfollowed := true, recurses := true, loops := true, apart := false }
def ItemWritesSaid : Prop := itemWritesRow.holds Try.pinned (OpenSpec.ofChange itemWritesSpec)

/-- ITS FALSE NEIGHBOUR: 'it returns false'. Refute it at one input. -/
def itemWritesWrong : ChangeSpec := { name := "itemWrites", fn := fun _ => fun
  | [d] => { results := [.lit (.bool false)], args := [d] }
  | _ => none }
def ItemWritesWrongFalsely : Prop := itemWritesRow.holds Try.pinned (OpenSpec.ofChange itemWritesWrong)

/-- 'timekeeperlaw03.ItemAnys': WHATEVER THE INPUT: true; the input reads as it did. -/
def itemAnysSpec : ChangeSpec := { name := "itemAnys", fn := fun _ => fun
  | [d] => { results := [.lit (.bool true)], args := [d] }
  | _ => none }
def itemAnysRow : OpenClaim := { program := "ytkmikpmbnfcbpaa", sum := "f7cbe35311d1249e185e0cbd4ba8968fc872bfb4a2210f27ded3ebe5d9ea9ee2", func := "timekeeper/timekeeperlaw03.ItemAnys", spec := "itemAnys", unfollowed := true, recurses := true, loops := true, apart := false }
def ItemAnysSaid : Prop := itemAnysRow.holds Try.pinned (OpenSpec.ofChange itemAnysSpec)

/-- ITS FALSE NEIGHBOUR: 'it returns false'. Refute it at one input. -/
def itemAnysWrong : ChangeSpec := { name := "itemAnys", fn := fun _ => fun
  | [d] => { results := [.lit (.bool false)], args := [d] }
  | _ => none }
def ItemAnysWrongFalsely : Prop := itemAnysRow.holds Try.pinned (OpenSpec.ofChange itemAnysWrong)

/-- 'timekeeperlaw03.ItemLists': WHATEVER THE INPUT: true; the input reads as it did. -/
def itemListsSpec : ChangeSpec := { name := "itemLists", fn := fun _ => fun
  | [d] => { results := [.lit (.bool true)], args := [d] }
  | _ => none }
def itemListsRow : OpenClaim := { program := "ytkmikpmbnfcbpaa", sum := "f7cbe35311d1249e185e0cbd4ba8968fc872bfb4a2210f27ded3ebe5d9ea9ee2", func := "timekeeper/timekeeperlaw03.ItemLists", spec := "itemLists", unfollowed := true, recurses := true, loops := true, apart := false }
def ItemListsSaid : Prop := itemListsRow.holds Try.pinned (OpenSpec.ofChange itemListsSpec)

/-- ITS FALSE NEIGHBOUR: 'it returns false'. Refute it at one input. -/
def itemListsWrong : ChangeSpec := { name := "itemLists", fn := fun _ => fun
  | [d] => { results := [.lit (.bool false)], args := [d] }
  | _ => none }
def ItemListsWrongFalsely : Prop := itemListsRow.holds Try.pinned (OpenSpec.ofChange itemListsWrong)

/-- 'timekeeperlaw03.ItemSame': WHATEVER THE INPUT: true; the input reads as it did. -/
def itemSameSpec : ChangeSpec := { name := "itemSame", fn := fun _ => fun
  | [d1, d2] => { results := [.lit (.bool true)], args := [d1, d2] }
  | _ => none }
def itemSameRow : OpenClaim := { program := "ytkmikpmbnfcbpaa", sum := "f7cbe35311d1249e185e0cbd4ba8968fc872bfb4a2210f27ded3ebe5d9ea9ee2", func := "timekeeper/timekeeperlaw03.ItemSame", spec := "itemSame", unfollowed := true, recurses := true, loops := true, apart := false }
def ItemSameSaid : Prop := itemSameRow.holds Try.pinned (OpenSpec.ofChange itemSameSpec)

/-- ITS FALSE NEIGHBOUR: 'it returns false'. Refute it at one input. -/
def itemSameWrong : ChangeSpec := { name := "itemSame", fn := fun _ => fun
  | [d1, d2] => { results := [.lit (.bool false)], args := [d1, d2] }
  | _ => none }
def ItemSameWrongFalsely : Prop := itemSameRow.holds Try.pinned (OpenSpec.ofChange itemSameWrong)

/-- 'timekeeperlaw03.ItemAt': WHATEVER THE INPUT: true; the input reads as it did. -/
def itemAtSpec : ChangeSpec := { name := "itemAt", fn := fun _ => fun
  | [d1, d2] => { results := [.lit (.bool true)], args := [d1, d2] }
  | _ => none }
def itemAtRow : OpenClaim := { program := "ytkmikpmbnfcbpaa", sum := "f7cbe35311d1249e185e0cbd4ba8968fc872bfb4a2210f27ded3ebe5d9ea9ee2", func := "timekeeper/timekeeperlaw03.ItemAt", spec := "itemAt", unfollowed := true, recurses := true, loops := true, apart := false }
def ItemAtSaid : Prop := itemAtRow.holds Try.pinned (OpenSpec.ofChange itemAtSpec)

/-- ITS FALSE NEIGHBOUR: 'it returns false'. Refute it at one input. -/
def itemAtWrong : ChangeSpec := { name := "itemAt", fn := fun _ => fun
  | [d1, d2] => { results := [.lit (.bool false)], args := [d1, d2] }
  | _ => none }
def ItemAtWrongFalsely : Prop := itemAtRow.holds Try.pinned (OpenSpec.ofChange itemAtWrong)

/-- 'timekeeperlaw03.ItemTypes': WHATEVER THE INPUT: true; the input reads as it did. -/
def itemTypesSpec : ChangeSpec := { name := "itemTypes", fn := fun _ => fun
  | [d1, d2, d3] => { results := [.lit (.bool true)], args := [d1, d2, d3] }
  | _ => none }
def itemTypesRow : OpenClaim := { program := "ytkmikpmbnfcbpaa", sum := "f7cbe35311d1249e185e0cbd4ba8968fc872bfb4a2210f27ded3ebe5d9ea9ee2", func := "timekeeper/timekeeperlaw03.ItemTypes", spec := "itemTypes", unfollowed := true, recurses := true, apart := false }
def ItemTypesSaid : Prop := itemTypesRow.holds Try.pinned (OpenSpec.ofChange itemTypesSpec)

/-- ITS FALSE NEIGHBOUR: 'it returns false'. Refute it at one input. -/
def itemTypesWrong : ChangeSpec := { name := "itemTypes", fn := fun _ => fun
  | [d1, d2, d3] => { results := [.lit (.bool false)], args := [d1, d2, d3] }
  | _ => none }
def ItemTypesWrongFalsely : Prop := itemTypesRow.holds Try.pinned (OpenSpec.ofChange itemTypesWrong)

/-- 'timekeeperlaw03.ItemMakes': WHATEVER THE INPUT: true; the input reads as it did. -/
def itemMakesSpec : ChangeSpec := { name := "itemMakes", fn := fun _ => fun
  | [d1, d2, d3] => { results := [.lit (.bool true)], args := [d1, d2, d3] }
  | _ => none }
def itemMakesRow : OpenClaim := { program := "ytkmikpmbnfcbpaa", sum := "f7cbe35311d1249e185e0cbd4ba8968fc872bfb4a2210f27ded3ebe5d9ea9ee2", func := "timekeeper/timekeeperlaw03.ItemMakes", spec := "itemMakes", unfollowed := true, recurses := true, apart := false }
def ItemMakesSaid : Prop := itemMakesRow.holds Try.pinned (OpenSpec.ofChange itemMakesSpec)

/-- ITS FALSE NEIGHBOUR: 'it returns false'. Refute it at one input. -/
def itemMakesWrong : ChangeSpec := { name := "itemMakes", fn := fun _ => fun
  | [d1, d2, d3] => { results := [.lit (.bool false)], args := [d1, d2, d3] }
  | _ => none }
def ItemMakesWrongFalsely : Prop := itemMakesRow.holds Try.pinned (OpenSpec.ofChange itemMakesWrong)

/- THE SECOND FORM. 'bulk': how many values and letters a reading holds, each counted each time it is reached (what is shared counts as often as it is met; a slice's spare places count too). A statement '..UptoSaid' is the law's where the arguments, and the package variables that the reading takes, are together of bulk at most 1048576: NARROWER than '..Said'. Prove '..Said' where nothing that the law and all that it calls make is longer than what came in: it says more and counts as full. Else prove '..UptoSaid'. A law counts once. -/
mutual
def uptoBulk {H : Type} : DataW H → Nat
  | .lit (.string bytes) => bytes.length + 1
  | .lit _ => 1
  | .nil => 1
  | .ptr d => uptoBulk d + 1
  | .slice elems spare => uptoBulkAll elems + uptoBulkAll spare + 1
  | .agg parts => uptoBulkAll parts + 1
  | .iface _ d => uptoBulk d + 1
  | .map entries => uptoBulkEntries entries + 1
  | .held _ => 1
def uptoBulkAll {H : Type} : List (DataW H) → Nat
  | [] => 0
  | d :: r => uptoBulk d + uptoBulkAll r
def uptoBulkEntries {H : Type} : List (Lit × DataW H) → Nat
  | [] => 0
  | x :: r => uptoBulkEntry x + uptoBulkEntries r
def uptoBulkEntry {H : Type} : Lit × DataW H → Nat
  | (.string bytes, d) => bytes.length + uptoBulk d + 1
  | (_, d) => uptoBulk d + 1
 end
def uptoSmall : (H : Type) → List (DataW H) → Bool := fun _ ds => decide (uptoBulkAll ds ≤ 1048576)
def OpenSpec.upto (s : _root_.Go.ChangeSpec) : _root_.Go.OpenSpec := { _root_.Go.OpenSpec.ofChange s with cond := some uptoSmall }

/-- 'timekeeperlaw03.ItemReads', WHERE WHAT IT READS IS OF BULK AT MOST 1048576: true; the input reads as it did. -/
def itemReadsUptoRow : OpenClaim := { program := "ytkmikpmbnfcbpaa", sum := "f7cbe35311d1249e185e0cbd4ba8968fc872bfb4a2210f27ded3ebe5d9ea9ee2", func := "timekeeper/timekeeperlaw03.ItemReads", spec := "itemReads", unfollowed := true, recurses := true, apart := false, narrowed := true }
def ItemReadsUptoSaid : Prop := itemReadsUptoRow.holds Try.pinned (OpenSpec.upto itemReadsSpec)

/-- 'timekeeperlaw03.ItemBack', WHERE WHAT IT READS IS OF BULK AT MOST 1048576: true; the input reads as it did. -/
def itemBackUptoRow : OpenClaim := { program := "ytkmikpmbnfcbpaa", sum := "f7cbe35311d1249e185e0cbd4ba8968fc872bfb4a2210f27ded3ebe5d9ea9ee2", func := "timekeeper/timekeeperlaw03.ItemBack", spec := "itemBack", unfollowed := true, recurses := true, loops := true, apart := false, narrowed := true }
def ItemBackUptoSaid : Prop := itemBackUptoRow.holds Try.pinned (OpenSpec.upto itemBackSpec)

/-- 'timekeeperlaw03.ItemWrites', WHERE WHAT IT READS IS OF BULK AT MOST 1048576: true; the input reads as it did. -/
def itemWritesUptoRow : OpenClaim := { program := "ytkmikpmbnfcbpaa", sum := "f7cbe35311d1249e185e0cbd4ba8968fc872bfb4a2210f27ded3ebe5d9ea9ee2", func := "timekeeper/timekeeperlaw03.ItemWrites", spec := "itemWrites", unfollowed := true, recurses := true, loops := true, apart := false, narrowed := true }
def ItemWritesUptoSaid : Prop := itemWritesUptoRow.holds Try.pinned (OpenSpec.upto itemWritesSpec)

/-- 'timekeeperlaw03.ItemAnys', WHERE WHAT IT READS IS OF BULK AT MOST 1048576: true; the input reads as it did. -/
def itemAnysUptoRow : OpenClaim := { program := "ytkmikpmbnfcbpaa", sum := "f7cbe35311d1249e185e0cbd4ba8968fc872bfb4a2210f27ded3ebe5d9ea9ee2", func := "timekeeper/timekeeperlaw03.ItemAnys", spec := "itemAnys", unfollowed := true, recurses := true, loops := true, apart := false, narrowed := true }
def ItemAnysUptoSaid : Prop := itemAnysUptoRow.holds Try.pinned (OpenSpec.upto itemAnysSpec)

/-- 'timekeeperlaw03.ItemLists', WHERE WHAT IT READS IS OF BULK AT MOST 1048576: true; the input reads as it did. -/
def itemListsUptoRow : OpenClaim := { program := "ytkmikpmbnfcbpaa", sum := "f7cbe35311d1249e185e0cbd4ba8968fc872bfb4a2210f27ded3ebe5d9ea9ee2", func := "timekeeper/timekeeperlaw03.ItemLists", spec := "itemLists", unfollowed := true, recurses := true, loops := true, apart := false, narrowed := true }
def ItemListsUptoSaid : Prop := itemListsUptoRow.holds Try.pinned (OpenSpec.upto itemListsSpec)

/-- 'timekeeperlaw03.ItemSame', WHERE WHAT IT READS IS OF BULK AT MOST 1048576: true; the input reads as it did. -/
def itemSameUptoRow : OpenClaim := { program := "ytkmikpmbnfcbpaa", sum := "f7cbe35311d1249e185e0cbd4ba8968fc872bfb4a2210f27ded3ebe5d9ea9ee2", func := "timekeeper/timekeeperlaw03.ItemSame", spec := "itemSame", unfollowed := true, recurses := true, loops := true, apart := false, narrowed := true }
def ItemSameUptoSaid : Prop := itemSameUptoRow.holds Try.pinned (OpenSpec.upto itemSameSpec)

/-- 'timekeeperlaw03.ItemAt', WHERE WHAT IT READS IS OF BULK AT MOST 1048576: true; the input reads as it did. -/
def itemAtUptoRow : OpenClaim := { program := "ytkmikpmbnfcbpaa", sum := "f7cbe35311d1249e185e0cbd4ba8968fc872bfb4a2210f27ded3ebe5d9ea9ee2", func := "timekeeper/timekeeperlaw03.ItemAt", spec := "itemAt", unfollowed := true, recurses := true, loops := true, apart := false, narrowed := true }
def ItemAtUptoSaid : Prop := itemAtUptoRow.holds Try.pinned (OpenSpec.upto itemAtSpec)

/-- 'timekeeperlaw03.ItemTypes', WHERE WHAT IT READS IS OF BULK AT MOST 1048576: true; the input reads as it did. -/
def itemTypesUptoRow : OpenClaim := { program := "ytkmikpmbnfcbpaa", sum := "f7cbe35311d1249e185e0cbd4ba8968fc872bfb4a2210f27ded3ebe5d9ea9ee2", func := "timekeeper/timekeeperlaw03.ItemTypes", spec := "itemTypes", unfollowed := true, recurses := true, apart := false, narrowed := true }
def ItemTypesUptoSaid : Prop := itemTypesUptoRow.holds Try.pinned (OpenSpec.upto itemTypesSpec)

/-- 'timekeeperlaw03.ItemMakes', WHERE WHAT IT READS IS OF BULK AT MOST 1048576: true; the input reads as it did. -/
def itemMakesUptoRow : OpenClaim := { program := "ytkmikpmbnfcbpaa", sum := "f7cbe35311d1249e185e0cbd4ba8968fc872bfb4a2210f27ded3ebe5d9ea9ee2", func := "timekeeper/timekeeperlaw03.ItemMakes", spec := "itemMakes", unfollowed := true, recurses := true, apart := false, narrowed := true }
def ItemMakesUptoSaid : Prop := itemMakesUptoRow.holds Try.pinned (OpenSpec.upto itemMakesSpec)

end Rows
end Go.Proofs.Ytkmikpmbnfcbpaa
