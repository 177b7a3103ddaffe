/-
  No cell of these rows narrows 'for every input' (looked for: loops, veiled, ifaces, maps, wideKeys, modest, calm, conditions, laid).
  DERIVED. THE GIVEN ROWS OF THIS SEAT. 7 by the template 'for every input the law returns true; each argument reads behind the call as it read before'; 0 by the template 'total and deterministic' (their statements: YtnolmcdahpkcnaaTotals.lean).
  GIVEN WITH THE SEED: the statements are not yours to turn. If you find one false, say at which input.
  Laid BY PROGRAM, IN A SANDBOX (cutbox-rows.mjs): the forced cells as the released guide's own fill.sh prints them over the translation b27b0612059e8ba0… (all of the seat's roots in one cut). By AI agents, Wed Nov 11 2026. No macro, syntax, notation, axiom, sorry.
-/
import Derived.Test.YtnolmcdahpkcnaaChecked
import GoSem.Claim
import GoSem.ClaimJoined
import GoSem.ClaimMapViews
import Derived.JoinedTies
import Derived.KernelRfl
namespace Go.Proofs.Ytnolmcdahpkcnaa
/- THE CELL 'sum', in the pinned program and in every row, IS THE sha256 OF THE DUMP (.gsa) THAT YtnolmcdahpkcnaaProg.lean LOADS. Nothing in Lean hashes anything: it is a label: what it is worth is what the hold of that sum in a sandbox is worth. -/
noncomputable def Try.pinned : Pinned := { name := "ytnolmcdahpkcnaa", sum := "b27b0612059e8ba0dc23e78a0a6108eb69986ba08de039ea6872161d533205a3", checked := Try.checked }
namespace Rows
def none {H : Type} : Left H := { results := [], args := [] }

/-- 'timekeeperlaw04.JournalSums': WHATEVER THE INPUT: true; the input reads as it did. -/
def journalSumsSpec : ChangeSpec := { name := "journalSums", fn := fun _ => fun
  | [d] => { results := [.lit (.bool true)], args := [d] }
  | _ => none }
def journalSumsRow : OpenClaim := { program := "ytnolmcdahpkcnaa", sum := "b27b0612059e8ba0dc23e78a0a6108eb69986ba08de039ea6872161d533205a3", func := "timekeeper/timekeeperlaw04.JournalSums", spec := "journalSums", apart := false }
def JournalSumsSaid : Prop := journalSumsRow.holds Try.pinned (OpenSpec.ofChange journalSumsSpec)

/-- ITS FALSE NEIGHBOUR: 'it returns false'. Refute it at one input. -/
def journalSumsWrong : ChangeSpec := { name := "journalSums", fn := fun _ => fun
  | [d] => { results := [.lit (.bool false)], args := [d] }
  | _ => none }
def JournalSumsWrongFalsely : Prop := journalSumsRow.holds Try.pinned (OpenSpec.ofChange journalSumsWrong)

/-- 'timekeeperlaw04.JournalParts': WHATEVER THE INPUT: true; the input reads as it did. -/
def journalPartsSpec : ChangeSpec := { name := "journalParts", fn := fun _ => fun
  | [d1, d2, d3] => { results := [.lit (.bool true)], args := [d1, d2, d3] }
  | _ => none }
def journalPartsRow : OpenClaim := { program := "ytnolmcdahpkcnaa", sum := "b27b0612059e8ba0dc23e78a0a6108eb69986ba08de039ea6872161d533205a3", func := "timekeeper/timekeeperlaw04.JournalParts", spec := "journalParts", apart := false }
def JournalPartsSaid : Prop := journalPartsRow.holds Try.pinned (OpenSpec.ofChange journalPartsSpec)

/-- ITS FALSE NEIGHBOUR: 'it returns false'. Refute it at one input. -/
def journalPartsWrong : ChangeSpec := { name := "journalParts", fn := fun _ => fun
  | [d1, d2, d3] => { results := [.lit (.bool false)], args := [d1, d2, d3] }
  | _ => none }
def JournalPartsWrongFalsely : Prop := journalPartsRow.holds Try.pinned (OpenSpec.ofChange journalPartsWrong)

/-- 'timekeeperlaw04.JournalHurt': WHATEVER THE INPUT: true; the input reads as it did. -/
def journalHurtSpec : ChangeSpec := { name := "journalHurt", fn := fun _ => fun
  | [d1, d2, d3] => { results := [.lit (.bool true)], args := [d1, d2, d3] }
  | _ => none }
def journalHurtRow : OpenClaim := { program := "ytnolmcdahpkcnaa", sum := "b27b0612059e8ba0dc23e78a0a6108eb69986ba08de039ea6872161d533205a3", func := "timekeeper/timekeeperlaw04.JournalHurt", spec := "journalHurt", apart := false }
def JournalHurtSaid : Prop := journalHurtRow.holds Try.pinned (OpenSpec.ofChange journalHurtSpec)

/-- ITS FALSE NEIGHBOUR: 'it returns false'. Refute it at one input. -/
def journalHurtWrong : ChangeSpec := { name := "journalHurt", fn := fun _ => fun
  | [d1, d2, d3] => { results := [.lit (.bool false)], args := [d1, d2, d3] }
  | _ => none }
def JournalHurtWrongFalsely : Prop := journalHurtRow.holds Try.pinned (OpenSpec.ofChange journalHurtWrong)

/-- 'timekeeperlaw04.JournalFrames': WHATEVER THE INPUT: true; the input reads as it did. -/
def journalFramesSpec : ChangeSpec := { name := "journalFrames", fn := fun _ => fun
  | [d1, d2, d3] => { results := [.lit (.bool true)], args := [d1, d2, d3] }
  | _ => none }
def journalFramesRow : OpenClaim := { program := "ytnolmcdahpkcnaa", sum := "b27b0612059e8ba0dc23e78a0a6108eb69986ba08de039ea6872161d533205a3", func := "timekeeper/timekeeperlaw04.JournalFrames", spec := "journalFrames", apart := false }
def JournalFramesSaid : Prop := journalFramesRow.holds Try.pinned (OpenSpec.ofChange journalFramesSpec)

/-- ITS FALSE NEIGHBOUR: 'it returns false'. Refute it at one input. -/
def journalFramesWrong : ChangeSpec := { name := "journalFrames", fn := fun _ => fun
  | [d1, d2, d3] => { results := [.lit (.bool false)], args := [d1, d2, d3] }
  | _ => none }
def JournalFramesWrongFalsely : Prop := journalFramesRow.holds Try.pinned (OpenSpec.ofChange journalFramesWrong)

/-- 'timekeeperlaw04.JournalScans': WHATEVER THE INPUT: true; the input reads as it did. -/
def journalScansSpec : ChangeSpec := { name := "journalScans", fn := fun _ => fun
  | [d] => { results := [.lit (.bool true)], args := [d] }
  | _ => none }
def journalScansRow : OpenClaim := { program := "ytnolmcdahpkcnaa", sum := "b27b0612059e8ba0dc23e78a0a6108eb69986ba08de039ea6872161d533205a3", func := "timekeeper/timekeeperlaw04.JournalScans", spec := "journalScans", recurses := true, apart := false }
def JournalScansSaid : Prop := journalScansRow.holds Try.pinned (OpenSpec.ofChange journalScansSpec)

/-- ITS FALSE NEIGHBOUR: 'it returns false'. Refute it at one input. -/
def journalScansWrong : ChangeSpec := { name := "journalScans", fn := fun _ => fun
  | [d] => { results := [.lit (.bool false)], args := [d] }
  | _ => none }
def JournalScansWrongFalsely : Prop := journalScansRow.holds Try.pinned (OpenSpec.ofChange journalScansWrong)

/-- 'timekeeperlaw04.JournalAdds': WHATEVER THE INPUT: true; the input reads as it did. -/
def journalAddsSpec : ChangeSpec := { name := "journalAdds", fn := fun _ => fun
  | [d1, d2] => { results := [.lit (.bool true)], args := [d1, d2] }
  | _ => none }
def journalAddsRow : OpenClaim := { program := "ytnolmcdahpkcnaa", sum := "b27b0612059e8ba0dc23e78a0a6108eb69986ba08de039ea6872161d533205a3", func := "timekeeper/timekeeperlaw04.JournalAdds", spec := "journalAdds", apart := false }
def JournalAddsSaid : Prop := journalAddsRow.holds Try.pinned (OpenSpec.ofChange journalAddsSpec)

/-- ITS FALSE NEIGHBOUR: 'it returns false'. Refute it at one input. -/
def journalAddsWrong : ChangeSpec := { name := "journalAdds", fn := fun _ => fun
  | [d1, d2] => { results := [.lit (.bool false)], args := [d1, d2] }
  | _ => none }
def JournalAddsWrongFalsely : Prop := journalAddsRow.holds Try.pinned (OpenSpec.ofChange journalAddsWrong)

/-- 'timekeeperlaw04.JournalTears': WHATEVER THE INPUT: true; the input reads as it did. -/
def journalTearsSpec : ChangeSpec := { name := "journalTears", fn := fun _ => fun
  | [d1, d2, d3] => { results := [.lit (.bool true)], args := [d1, d2, d3] }
  | _ => none }
def journalTearsRow : OpenClaim := { program := "ytnolmcdahpkcnaa", sum := "b27b0612059e8ba0dc23e78a0a6108eb69986ba08de039ea6872161d533205a3", func := "timekeeper/timekeeperlaw04.JournalTears", spec := "journalTears", apart := false }
def JournalTearsSaid : Prop := journalTearsRow.holds Try.pinned (OpenSpec.ofChange journalTearsSpec)

/-- ITS FALSE NEIGHBOUR: 'it returns false'. Refute it at one input. -/
def journalTearsWrong : ChangeSpec := { name := "journalTears", fn := fun _ => fun
  | [d1, d2, d3] => { results := [.lit (.bool false)], args := [d1, d2, d3] }
  | _ => none }
def JournalTearsWrongFalsely : Prop := journalTearsRow.holds Try.pinned (OpenSpec.ofChange journalTearsWrong)

/- THE SECOND FORM. 'bulk': how many values and letters a reading holds, each counted each time it is reached (what is shared counts as often as it is met; a slice's spare places count too). A statement '..UptoSaid' is the law's where the arguments, and the package variables that the reading takes, are together of bulk at most 1048576: NARROWER than '..Said'. Prove '..Said' where nothing that the law and all that it calls make is longer than what came in: it says more and counts as full. Else prove '..UptoSaid'. A law counts once. -/
mutual
def uptoBulk {H : Type} : DataW H → Nat
  | .lit (.string bytes) => bytes.length + 1
  | .lit _ => 1
  | .nil => 1
  | .ptr d => uptoBulk d + 1
  | .slice elems spare => uptoBulkAll elems + uptoBulkAll spare + 1
  | .agg parts => uptoBulkAll parts + 1
  | .iface _ d => uptoBulk d + 1
  | .map entries => uptoBulkEntries entries + 1
  | .held _ => 1
def uptoBulkAll {H : Type} : List (DataW H) → Nat
  | [] => 0
  | d :: r => uptoBulk d + uptoBulkAll r
def uptoBulkEntries {H : Type} : List (Lit × DataW H) → Nat
  | [] => 0
  | x :: r => uptoBulkEntry x + uptoBulkEntries r
def uptoBulkEntry {H : Type} : Lit × DataW H → Nat
  | (.string bytes, d) => bytes.length + uptoBulk d + 1
  | (_, d) => uptoBulk d + 1
 end
def uptoSmall : (H : Type) → List (DataW H) → Bool := fun _ ds => decide (uptoBulkAll ds ≤ 1048576)
def OpenSpec.upto (s : _root_.Go.ChangeSpec) : _root_.Go.OpenSpec := { _root_.Go.OpenSpec.ofChange s with cond := some uptoSmall }

/-- 'timekeeperlaw04.JournalSums', WHERE WHAT IT READS IS OF BULK AT MOST 1048576: true; the input reads as it did. -/
def journalSumsUptoRow : OpenClaim := { program := "ytnolmcdahpkcnaa", sum := "b27b0612059e8ba0dc23e78a0a6108eb69986ba08de039ea6872161d533205a3", func := "timekeeper/timekeeperlaw04.JournalSums", spec := "journalSums", apart := false, narrowed := true }
def JournalSumsUptoSaid : Prop := journalSumsUptoRow.holds Try.pinned (OpenSpec.upto journalSumsSpec)

/-- 'timekeeperlaw04.JournalParts', WHERE WHAT IT READS IS OF BULK AT MOST 1048576: true; the input reads as it did. -/
def journalPartsUptoRow : OpenClaim := { program := "ytnolmcdahpkcnaa", sum := "b27b0612059e8ba0dc23e78a0a6108eb69986ba08de039ea6872161d533205a3", func := "timekeeper/timekeeperlaw04.JournalParts", spec := "journalParts", apart := false, narrowed := true }
def JournalPartsUptoSaid : Prop := journalPartsUptoRow.holds Try.pinned (OpenSpec.upto journalPartsSpec)

/-- 'timekeeperlaw04.JournalHurt', WHERE WHAT IT READS IS OF BULK AT MOST 1048576: true; the input reads as it did. -/
def journalHurtUptoRow : OpenClaim := { program := "ytnolmcdahpkcnaa", sum := "b27b0612059e8ba0dc23e78a0a6108eb69986ba08de039ea6872161d533205a3", func := "timekeeper/timekeeperlaw04.JournalHurt", spec := "journalHurt", apart := false, narrowed := true }
def JournalHurtUptoSaid : Prop := journalHurtUptoRow.holds Try.pinned (OpenSpec.upto journalHurtSpec)

/-- 'timekeeperlaw04.JournalFrames', WHERE WHAT IT READS IS OF BULK AT MOST 1048576: true; the input reads as it did. -/
def journalFramesUptoRow : OpenClaim := { program := "ytnolmcdahpkcnaa", sum := "b27b0612059e8ba0dc23e78a0a6108eb69986ba08de039ea6872161d533205a3", func := "timekeeper/timekeeperlaw04.JournalFrames", spec := "journalFrames", apart := false, narrowed := true }
def JournalFramesUptoSaid : Prop := journalFramesUptoRow.holds Try.pinned (OpenSpec.upto journalFramesSpec)

/-- 'timekeeperlaw04.JournalScans', WHERE WHAT IT READS IS OF BULK AT MOST 1048576: true; the input reads as it did. -/
def journalScansUptoRow : OpenClaim := { program := "ytnolmcdahpkcnaa", sum := "b27b0612059e8ba0dc23e78a0a6108eb69986ba08de039ea6872161d533205a3", func := "timekeeper/timekeeperlaw04.JournalScans", spec := "journalScans", recurses := true, apart := false, narrowed := true }
def JournalScansUptoSaid : Prop := journalScansUptoRow.holds Try.pinned (OpenSpec.upto journalScansSpec)

/-- 'timekeeperlaw04.JournalAdds', WHERE WHAT IT READS IS OF BULK AT MOST 1048576: true; the input reads as it did. -/
def journalAddsUptoRow : OpenClaim := { program := "ytnolmcdahpkcnaa", sum := "b27b0612059e8ba0dc23e78a0a6108eb69986ba08de039ea6872161d533205a3", func := "timekeeper/timekeeperlaw04.JournalAdds", spec := "journalAdds", apart := false, narrowed := true }
def JournalAddsUptoSaid : Prop := journalAddsUptoRow.holds Try.pinned (OpenSpec.upto journalAddsSpec)

/-- 'timekeeperlaw04.JournalTears', WHERE WHAT IT READS IS OF BULK AT MOST 1048576: true; the input reads as it did. -/
def journalTearsUptoRow : OpenClaim := { program := "ytnolmcdahpkcnaa", sum := "b27b0612059e8ba0dc23e78a0a6108eb69986ba08de039ea6872161d533205a3", func := "timekeeper/timekeeperlaw04.JournalTears", spec := "journalTears", apart := false, narrowed := true }
def JournalTearsUptoSaid : Prop := journalTearsUptoRow.holds Try.pinned (OpenSpec.upto journalTearsSpec)

end Rows
end Go.Proofs.Ytnolmcdahpkcnaa
