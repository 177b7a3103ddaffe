/- What the frames need besides: an item argument's value; a slice of numbers that came in. -/
import Derived.Test.YtkmikpmbnfcbpaaGq
import Derived.ChangeShapes
namespace Go.Proofs.Ytkmikpmbnfcbpaa
open Go.RowKit
set_option linter.unusedVariables false
open Tree

theorem val_of_cells {v : Value} {t : Tree} {a : Option Addr} {c : Nat} (h : v.cells.toList = Tree.item t a c) : v = val t a c := by
  have hlen := congrArg List.length h
  cases v <;> simp [Value.cells, Tree.item] at h hlen
  rename_i cs
  unfold val
  congr 1
  apply Array.ext'
  simpa using h

theorem open_row {H : Type} {enc : TypeId × Value → H} {w : World} {base : Nat} {held : Bool} {fuel : Nat} {t e : TypeId} {k : IntKind} {a : Option Addr} {len cap : Nat} {x : DataW H × List MemPlace} (ht : Try.prog.underlying t = some (.slice e)) (he : Try.prog.underlying e = some (.int k)) (hc : Try.prog.cellsOf e = 1)
    (h : DataW.trod enc Try.prog w base (fun _ => true) held fuel t (Value.cells (.slice a len cap)).toList = some x) : ∃ zs, IsRow k w a len cap zs := by
  rcases Go.ChangeShapes.open_ints ht he hc h with ⟨hcs, hx⟩ | ⟨y, l, cp, zs, hcs, _, hl, hm, hz, hx, hcell, hwz⟩
  · simp [Value.cells] at hcs
    obtain ⟨rfl, rfl, rfl⟩ := hcs
    exact ⟨[], .inl ⟨rfl, rfl, rfl, rfl⟩⟩
  · simp [Value.cells] at hcs
    obtain ⟨rfl, rfl, rfl⟩ := hcs
    exact ⟨zs, .inr ⟨y, rfl, hl, hm, by simpa using hz, fun i hi => hcell i (by omega), hwz⟩⟩
end Go.Proofs.Ytkmikpmbnfcbpaa
